/- Contracts of the soc's lines and Serve, a transaction without a size. No condition. Contracts of the soc's lines and Serve, a transaction without a size. No condition. -/
import Derived.Test.YtefcdbpmpnmkjaaPack9
import Derived.Test.YtefcdbpmpnmkjaaPack6
import Derived.Test.YtefcdbpmpnmkjaaPack4
import Derived.StillTailTactics
import Derived.BigRegion
import Derived.Deep.RegionWith
import Derived.Deep.RegionHeld3
import Derived.Deep.QuietTactic
import Derived.BigQuiet
import Derived.Deep.DeepFit
import Derived.Deep.DeepMust
import Derived.Handy
section
set_option linter.unusedVariables false
set_option linter.unusedSimpArgs false
namespace Go.Proofs.Ytefcdbpmpnmkjaa
open Go.RowKit
set_option maxRecDepth 100000
/-- an ask -/
structure AskS where
  port : Int
  id : Int
  kind : Int
  addr : Nat
  beats : Nat
  da : Option Addr
  dl : Nat
  dc : Nat
  sa : Option Addr
  sl : Nat
  sc : Nat
  size : Int
def AskS.cells (a : AskS) : Array Value := #[.int .i64 a.port, .int .i64 a.id, .int .i64 a.kind, .int .u64 a.addr, .int .i64 a.beats, .slice a.da a.dl a.dc, .slice a.sa a.sl a.sc, .int .i64 a.size]
theorem own_le {w : World} {base base' : Nat} {e : TypeId} {size : Nat} {v : Value} {n : Nat} {xs : List Value} (h : w.ownsRow base e size v n xs) (hb : base' ≤ base) : w.ownsRow base' e size v n xs := by
  obtain ⟨h1, h2 | ⟨g, cap, cur, k1, k2, k3⟩⟩ := h
  · exact ⟨h1, .inl h2⟩
  · exact ⟨h1, .inr ⟨g, cap, cur, k1, Nat.le_trans hb k2, k3⟩⟩
def SrvIs (w : World) (A : AskS) (er : Bool) (l : List Int) (e : Ending) (w' : World) : Prop := ∃ a c, e = .returned (.agg #[.int .i64 A.port, .int .i64 A.id, .slice a l.length c, .bool er]) ∧ w'.ownsRow w.heap.size 5 1 (.slice a l.length c) l.length (l.map (Value.int .u8)) ∧ Below w.heap.size w w'
def LinesAre (w : World) (er : Int) (l : List Int) (e : Ending) (w' : World) : Prop := ∃ a c, e = .returned (.tuple #[.slice a l.length c, .int .i64 er]) ∧ IsB w' a l.length l ∧ Below w.heap.size w w'
set_option maxHeartbeats 4000000 in
theorem soc_lines5 {w : World} {β : SocB} {σ : SocS} {lg sn : Value} {SR : Nat → Prop} (h : SocIs w β σ lg sn SR) (A : AskS) (hx : A.addr < 2 ^ 64) (hk : (pmaFind σ.n A.addr).1 ≠ 1) (k : Nat) (k64 : k ≤ 64) :
    Calls Try.prog 44 #[.pointer (some ⟨β.s, 0, none⟩), .agg A.cells, .int .i64 k] w (ReadA w (readE σ.n A.addr k) (readL σ.n σ.ct A.addr k)) := by
  have hlo := h.r.lo
  have HP : Hid (∀ W, Below w.heap.size w W → Calls Try.prog 29 #[.pointer (some ⟨β.r, 0, none⟩)] W fun e w' => e = .returned (.int .i64 σ.n) ∧ W = w') := fun W hb => ram_pages (h.below hb).r
  have HR : Hid (∀ W, Calls Try.prog 28 #[.int .i64 σ.n, .int .u64 A.addr] W fun e w' => e = .returned (.int .i64 (pmaFind σ.n A.addr).1) ∧ Below W.heap.size W w') := fun W => pma_region σ.n hlo.1 hlo.2 A.addr (by omega) (by omega) W
  have HW : Hid (∀ W, Below w.heap.size w W → Calls Try.prog 64 #[.pointer (some ⟨β.r, 0, none⟩), .int .u64 A.addr, .int .i64 k] W (ReadA W (readE σ.n A.addr k) (readL σ.n σ.ct A.addr k))) := fun W hb => ram_read_any (h.below hb).r A.addr (by omega) (by omega) k (by omega)
  have H := Lib.hid h
  have HF : Hid (∀ e w', ReadA w (readE σ.n A.addr k) (readL σ.n σ.ct A.addr k) e w' ↔ ∃ v, e = .returned (.tuple #[v, .int .i64 (readE σ.n A.addr k)]) ∧ w'.ownsRow w.heap.size 5 1 v (readL σ.n σ.ct A.addr k).length ((readL σ.n σ.ct A.addr k).map (Value.int .u8)) ∧ Below w.heap.size w w') := fun _ _ => Iff.rfl
  have hne : ((pmaFind σ.n A.addr).1 == 1) = false := by simpa using hk
  unfold ReadA at HW
  have hb0 := (Below.refl w.heap.size w).alloc (Nat.le_refl _) (Obj.cells #[.int .i64 A.port, .int .i64 A.id, .int .i64 A.kind, .int .u64 A.addr, .int .i64 A.beats, .slice A.da A.dl A.dc, .slice A.sa A.sl A.sc, .int .i64 A.size] 43)
  have hq0 : (w.alloc (Obj.cells #[.int .i64 A.port, .int .i64 A.id, .int .i64 A.kind, .int .u64 A.addr, .int .i64 A.beats, .slice A.da A.dl A.dc, .slice A.sa A.sl A.sc, .int .i64 A.size] 43)).heap[w.heap.size]? = some (.cells #[.int .i64 A.port, .int .i64 A.id, .int .i64 A.kind, .int .u64 A.addr, .int .i64 A.beats, .slice A.da A.dl A.dc, .slice A.sa A.sl A.sc, .int .i64 A.size] 43 (0, 0)) := blk_alloc _ _
  have HQ0 := Lib.hid hq0
  have HB0 := Lib.hid hb0
  have HR4 : Hid (∀ W, Below (w.alloc (Obj.cells #[.int .i64 A.port, .int .i64 A.id, .int .i64 A.kind, .int .u64 A.addr, .int .i64 A.beats, .slice A.da A.dl A.dc, .slice A.sa A.sl A.sc, .int .i64 A.size] 43)).heap.size (w.alloc (Obj.cells #[.int .i64 A.port, .int .i64 A.id, .int .i64 A.kind, .int .u64 A.addr, .int .i64 A.beats, .slice A.da A.dl A.dc, .slice A.sa A.sl A.sc, .int .i64 A.size] 43)) W → (fun wq => wq.heap[β.s]? = some (.cells (socCells β σ lg) 75 (0, 0)) ∧ wq.heap[w.heap.size]? = some (.cells #[.int .i64 A.port, .int .i64 A.id, .int .i64 A.kind, .int .u64 A.addr, .int .i64 A.beats, .slice A.da A.dl A.dc, .slice A.sa A.sl A.sc, .int .i64 A.size] 43 (0, 0))) W) := fun W hb => ⟨(h.below (below_then hb0 hb hb0.size)).at_, blk_below hb (blk_lt hq0) hq0⟩
  clear h hx hk hlo hb0 hq0
  unfold AskS.cells
  generalize (pmaFind σ.n A.addr).1 = rg at *
  generalize readE σ.n A.addr k = er at *
  generalize readL σ.n σ.ct A.addr k = li at *
  go_enter Try.func44, Try.ntmps44
  go_wp2_with fail
  generalize w.alloc (Obj.cells #[.int .i64 A.port, .int .i64 A.id, .int .i64 A.kind, .int .u64 A.addr, .int .i64 A.beats, .slice A.da A.dl A.dc, .slice A.sa A.sl A.sc, .int .i64 A.size] 43) = wb at *
  refine wp_region_held_drew (S := (fun wq => wq.heap[β.s]? = some (.cells (socCells β σ lg) 75 (0, 0)) ∧ wq.heap[w.heap.size]? = some (.cells #[.int .i64 A.port, .int .i64 A.id, .int .i64 A.kind, .int .u64 A.addr, .int .i64 A.beats, .slice A.da A.dl A.dc, .slice A.sa A.sl A.sc, .int .i64 A.size] 43 (0, 0)))) (by kernel_rfl) (HR4.out _ (Below.refl _ _).drew) (fun hH => ?_)
  refine wpAnyH_take (i := 0) (oi := ⟨some 8, _, _, _, _, _⟩) (v := ?_) rfl (by kernel_rfl) (by kernel_rfl) (by kernel_rfl) (fun _ _ _ h => h) (Or.inl ⟨by kernel_rfl, ?_⟩) hH ?_
  rotate_left 1
  · intro wq hq; have r3 : wq.cell? ⟨β.s, 3, none⟩ = some (.pointer (some ⟨β.r, 0, none⟩)) := blk_cell hq.1 3; have q0 : wq.cell? ⟨w.heap.size, 0, none⟩ = some (.int .i64 A.port) := blk_cell hq.2 0; have q1 : wq.cell? ⟨w.heap.size, 1, none⟩ = some (.int .i64 A.id) := blk_cell hq.2 1; have q2 : wq.cell? ⟨w.heap.size, 2, none⟩ = some (.int .i64 A.kind) := blk_cell hq.2 2; have q3 : wq.cell? ⟨w.heap.size, 3, none⟩ = some (.int .u64 A.addr) := blk_cell hq.2 3; have q4 : wq.cell? ⟨w.heap.size, 4, none⟩ = some (.int .i64 A.beats) := blk_cell hq.2 4; have q5 : wq.cell? ⟨w.heap.size, 5, none⟩ = some (.slice A.da A.dl A.dc) := blk_cell hq.2 5; have q6 : wq.cell? ⟨w.heap.size, 6, none⟩ = some (.slice A.sa A.sl A.sc) := blk_cell hq.2 6; have q7 : wq.cell? ⟨w.heap.size, 7, none⟩ = some (.int .i64 A.size) := blk_cell hq.2 7; clear hq; first | (go_simp; done) | (go_simp; with_reducible rfl)
  simp only [Act.put, List.setIfInBounds_toArray, List.set_cons_zero, List.set_cons_succ]
  refine wpAnyH_take (i := 1) (oi := ⟨some 9, _, _, _, _, _⟩) (v := ?_) rfl (by kernel_rfl) (by kernel_rfl) (by kernel_rfl) (fun _ _ _ h => h) (Or.inl ⟨by kernel_rfl, ?_⟩) hH ?_
  rotate_left 1
  · intro wq hq; have r3 : wq.cell? ⟨β.s, 3, none⟩ = some (.pointer (some ⟨β.r, 0, none⟩)) := blk_cell hq.1 3; have q0 : wq.cell? ⟨w.heap.size, 0, none⟩ = some (.int .i64 A.port) := blk_cell hq.2 0; have q1 : wq.cell? ⟨w.heap.size, 1, none⟩ = some (.int .i64 A.id) := blk_cell hq.2 1; have q2 : wq.cell? ⟨w.heap.size, 2, none⟩ = some (.int .i64 A.kind) := blk_cell hq.2 2; have q3 : wq.cell? ⟨w.heap.size, 3, none⟩ = some (.int .u64 A.addr) := blk_cell hq.2 3; have q4 : wq.cell? ⟨w.heap.size, 4, none⟩ = some (.int .i64 A.beats) := blk_cell hq.2 4; have q5 : wq.cell? ⟨w.heap.size, 5, none⟩ = some (.slice A.da A.dl A.dc) := blk_cell hq.2 5; have q6 : wq.cell? ⟨w.heap.size, 6, none⟩ = some (.slice A.sa A.sl A.sc) := blk_cell hq.2 6; have q7 : wq.cell? ⟨w.heap.size, 7, none⟩ = some (.int .i64 A.size) := blk_cell hq.2 7; clear hq; first | (go_simp; done) | (go_simp; with_reducible rfl)
  simp only [Act.put, List.setIfInBounds_toArray, List.set_cons_zero, List.set_cons_succ]
  refine wpAnyH_take (i := 2) (oi := ⟨some 10, _, _, _, _, _⟩) (v := ?_) rfl (by kernel_rfl) (by kernel_rfl) (by kernel_rfl) (fun _ _ _ h => h) (Or.inl ⟨by kernel_rfl, ?_⟩) hH ?_
  rotate_left 1
  · intro wq hq; have r3 : wq.cell? ⟨β.s, 3, none⟩ = some (.pointer (some ⟨β.r, 0, none⟩)) := blk_cell hq.1 3; have q0 : wq.cell? ⟨w.heap.size, 0, none⟩ = some (.int .i64 A.port) := blk_cell hq.2 0; have q1 : wq.cell? ⟨w.heap.size, 1, none⟩ = some (.int .i64 A.id) := blk_cell hq.2 1; have q2 : wq.cell? ⟨w.heap.size, 2, none⟩ = some (.int .i64 A.kind) := blk_cell hq.2 2; have q3 : wq.cell? ⟨w.heap.size, 3, none⟩ = some (.int .u64 A.addr) := blk_cell hq.2 3; have q4 : wq.cell? ⟨w.heap.size, 4, none⟩ = some (.int .i64 A.beats) := blk_cell hq.2 4; have q5 : wq.cell? ⟨w.heap.size, 5, none⟩ = some (.slice A.da A.dl A.dc) := blk_cell hq.2 5; have q6 : wq.cell? ⟨w.heap.size, 6, none⟩ = some (.slice A.sa A.sl A.sc) := blk_cell hq.2 6; have q7 : wq.cell? ⟨w.heap.size, 7, none⟩ = some (.int .i64 A.size) := blk_cell hq.2 7; clear hq; first | (go_simp; done) | (go_simp; with_reducible rfl)
  simp only [Act.put, List.setIfInBounds_toArray, List.set_cons_zero, List.set_cons_succ]
  refine wpAnyH_take (i := 3) (oi := ⟨some 11, _, _, _, _, _⟩) (v := ?_) rfl (by kernel_rfl) (by kernel_rfl) (by kernel_rfl) (fun _ _ _ h => h) (Or.inl ⟨by kernel_rfl, ?_⟩) hH ?_
  rotate_left 1
  · intro wq hq; have r3 : wq.cell? ⟨β.s, 3, none⟩ = some (.pointer (some ⟨β.r, 0, none⟩)) := blk_cell hq.1 3; have q0 : wq.cell? ⟨w.heap.size, 0, none⟩ = some (.int .i64 A.port) := blk_cell hq.2 0; have q1 : wq.cell? ⟨w.heap.size, 1, none⟩ = some (.int .i64 A.id) := blk_cell hq.2 1; have q2 : wq.cell? ⟨w.heap.size, 2, none⟩ = some (.int .i64 A.kind) := blk_cell hq.2 2; have q3 : wq.cell? ⟨w.heap.size, 3, none⟩ = some (.int .u64 A.addr) := blk_cell hq.2 3; have q4 : wq.cell? ⟨w.heap.size, 4, none⟩ = some (.int .i64 A.beats) := blk_cell hq.2 4; have q5 : wq.cell? ⟨w.heap.size, 5, none⟩ = some (.slice A.da A.dl A.dc) := blk_cell hq.2 5; have q6 : wq.cell? ⟨w.heap.size, 6, none⟩ = some (.slice A.sa A.sl A.sc) := blk_cell hq.2 6; have q7 : wq.cell? ⟨w.heap.size, 7, none⟩ = some (.int .i64 A.size) := blk_cell hq.2 7; clear hq; first | (go_simp; done) | (go_simp; with_reducible rfl)
  simp only [Act.put, List.setIfInBounds_toArray, List.set_cons_zero, List.set_cons_succ]
  refine wpAnyH_take (i := 5) (oi := ⟨some 13, _, _, _, _, _⟩) (v := ?_) rfl (by kernel_rfl) (by kernel_rfl) (by kernel_rfl) (fun _ _ _ h => h) (Or.inl ⟨by kernel_rfl, ?_⟩) hH ?_
  rotate_left 1
  · intro wq hq; have r3 : wq.cell? ⟨β.s, 3, none⟩ = some (.pointer (some ⟨β.r, 0, none⟩)) := blk_cell hq.1 3; have q0 : wq.cell? ⟨w.heap.size, 0, none⟩ = some (.int .i64 A.port) := blk_cell hq.2 0; have q1 : wq.cell? ⟨w.heap.size, 1, none⟩ = some (.int .i64 A.id) := blk_cell hq.2 1; have q2 : wq.cell? ⟨w.heap.size, 2, none⟩ = some (.int .i64 A.kind) := blk_cell hq.2 2; have q3 : wq.cell? ⟨w.heap.size, 3, none⟩ = some (.int .u64 A.addr) := blk_cell hq.2 3; have q4 : wq.cell? ⟨w.heap.size, 4, none⟩ = some (.int .i64 A.beats) := blk_cell hq.2 4; have q5 : wq.cell? ⟨w.heap.size, 5, none⟩ = some (.slice A.da A.dl A.dc) := blk_cell hq.2 5; have q6 : wq.cell? ⟨w.heap.size, 6, none⟩ = some (.slice A.sa A.sl A.sc) := blk_cell hq.2 6; have q7 : wq.cell? ⟨w.heap.size, 7, none⟩ = some (.int .i64 A.size) := blk_cell hq.2 7; clear hq; first | (go_simp; done) | (go_simp; with_reducible rfl)
  simp only [Act.put, List.setIfInBounds_toArray, List.set_cons_zero, List.set_cons_succ]
  refine wpAnyH_take (i := 6) (oi := ⟨some 14, _, _, _, _, _⟩) (v := ?_) rfl (by kernel_rfl) (by kernel_rfl) (by kernel_rfl) (fun _ _ _ h => h) (Or.inl ⟨by kernel_rfl, ?_⟩) hH ?_
  rotate_left 1
  · intro wq hq; have r3 : wq.cell? ⟨β.s, 3, none⟩ = some (.pointer (some ⟨β.r, 0, none⟩)) := blk_cell hq.1 3; have q0 : wq.cell? ⟨w.heap.size, 0, none⟩ = some (.int .i64 A.port) := blk_cell hq.2 0; have q1 : wq.cell? ⟨w.heap.size, 1, none⟩ = some (.int .i64 A.id) := blk_cell hq.2 1; have q2 : wq.cell? ⟨w.heap.size, 2, none⟩ = some (.int .i64 A.kind) := blk_cell hq.2 2; have q3 : wq.cell? ⟨w.heap.size, 3, none⟩ = some (.int .u64 A.addr) := blk_cell hq.2 3; have q4 : wq.cell? ⟨w.heap.size, 4, none⟩ = some (.int .i64 A.beats) := blk_cell hq.2 4; have q5 : wq.cell? ⟨w.heap.size, 5, none⟩ = some (.slice A.da A.dl A.dc) := blk_cell hq.2 5; have q6 : wq.cell? ⟨w.heap.size, 6, none⟩ = some (.slice A.sa A.sl A.sc) := blk_cell hq.2 6; have q7 : wq.cell? ⟨w.heap.size, 7, none⟩ = some (.int .i64 A.size) := blk_cell hq.2 7; clear hq; first | (go_simp; done) | (go_simp; with_reducible rfl)
  simp only [Act.put, List.setIfInBounds_toArray, List.set_cons_zero, List.set_cons_succ]
  refine wpAnyH_ready (rs := [4]) (by kernel_rfl) (by simp) (AllReadyH.cons (o := ⟨some 12, _, _, _, _, _⟩) rfl (fun K hK => ?_) AllReadyH.nil)
  go_simp
  refine (HP.out _ HB0.out.drew).mono ?_
  rintro e w2 ⟨rfl, rfl⟩
  go_wp2_with fail
  refine hK.out _ _ hH (fun hH => ?_)
  clear hK K
  try simp only [Act.put, List.setIfInBounds_toArray, List.set_cons_zero, List.set_cons_succ]
  refine wpAnyH_ready (rs := [7]) (by kernel_rfl) (by simp) (AllReadyH.cons (o := ⟨some 15, _, _, _, _, _⟩) rfl (fun K hK => ?_) AllReadyH.nil)
  go_simp
  refine (HR.out _).mono ?_
  rintro e w2 ⟨rfl, hb⟩
  have HB1 : Hid (Below wb.heap.size wb w2) := below_then (Below.refl _ _).drew hb (Nat.le_refl _)
  clear hb
  go_wp2_with fail
  refine hK.out _ _ (HR4.out _ HB1.out) (fun hH => ?_)
  clear hK K
  try simp only [Act.put, List.setIfInBounds_toArray, List.set_cons_zero, List.set_cons_succ]
  refine wpAnyH_take (i := 8) (oi := ⟨some 16, _, _, _, _, _⟩) (v := ?_) rfl (by kernel_rfl) (by kernel_rfl) (by kernel_rfl) (fun _ _ _ h => h) (Or.inl ⟨by kernel_rfl, ?_⟩) hH ?_
  rotate_left 1
  · intro wq hq; have r3 : wq.cell? ⟨β.s, 3, none⟩ = some (.pointer (some ⟨β.r, 0, none⟩)) := blk_cell hq.1 3; have q0 : wq.cell? ⟨w.heap.size, 0, none⟩ = some (.int .i64 A.port) := blk_cell hq.2 0; have q1 : wq.cell? ⟨w.heap.size, 1, none⟩ = some (.int .i64 A.id) := blk_cell hq.2 1; have q2 : wq.cell? ⟨w.heap.size, 2, none⟩ = some (.int .i64 A.kind) := blk_cell hq.2 2; have q3 : wq.cell? ⟨w.heap.size, 3, none⟩ = some (.int .u64 A.addr) := blk_cell hq.2 3; have q4 : wq.cell? ⟨w.heap.size, 4, none⟩ = some (.int .i64 A.beats) := blk_cell hq.2 4; have q5 : wq.cell? ⟨w.heap.size, 5, none⟩ = some (.slice A.da A.dl A.dc) := blk_cell hq.2 5; have q6 : wq.cell? ⟨w.heap.size, 6, none⟩ = some (.slice A.sa A.sl A.sc) := blk_cell hq.2 6; have q7 : wq.cell? ⟨w.heap.size, 7, none⟩ = some (.int .i64 A.size) := blk_cell hq.2 7; clear hq; first | (go_simp; done) | (go_simp; with_reducible rfl)
  simp only [Act.put, List.setIfInBounds_toArray, List.set_cons_zero, List.set_cons_succ]
  refine wpAnyH_done (by kernel_rfl) ?_ _
  clear hH
  go_wp2_with fail
  refine wp_region_held_drew (S := (fun wq => wq.heap[β.s]? = some (.cells (socCells β σ lg) 75 (0, 0)) ∧ wq.heap[w.heap.size]? = some (.cells #[.int .i64 A.port, .int .i64 A.id, .int .i64 A.kind, .int .u64 A.addr, .int .i64 A.beats, .slice A.da A.dl A.dc, .slice A.sa A.sl A.sc, .int .i64 A.size] 43 (0, 0)))) (by kernel_rfl) (HR4.out _ HB1.out.drew) (fun hH => ?_)
  refine wpAnyH_take (i := 0) (oi := ⟨some 29, _, _, _, _, _⟩) (v := ?_) rfl (by kernel_rfl) (by kernel_rfl) (by kernel_rfl) (fun _ _ _ h => h) (Or.inl ⟨by kernel_rfl, ?_⟩) hH ?_
  rotate_left 1
  · intro wq hq; have r3 : wq.cell? ⟨β.s, 3, none⟩ = some (.pointer (some ⟨β.r, 0, none⟩)) := blk_cell hq.1 3; have q0 : wq.cell? ⟨w.heap.size, 0, none⟩ = some (.int .i64 A.port) := blk_cell hq.2 0; have q1 : wq.cell? ⟨w.heap.size, 1, none⟩ = some (.int .i64 A.id) := blk_cell hq.2 1; have q2 : wq.cell? ⟨w.heap.size, 2, none⟩ = some (.int .i64 A.kind) := blk_cell hq.2 2; have q3 : wq.cell? ⟨w.heap.size, 3, none⟩ = some (.int .u64 A.addr) := blk_cell hq.2 3; have q4 : wq.cell? ⟨w.heap.size, 4, none⟩ = some (.int .i64 A.beats) := blk_cell hq.2 4; have q5 : wq.cell? ⟨w.heap.size, 5, none⟩ = some (.slice A.da A.dl A.dc) := blk_cell hq.2 5; have q6 : wq.cell? ⟨w.heap.size, 6, none⟩ = some (.slice A.sa A.sl A.sc) := blk_cell hq.2 6; have q7 : wq.cell? ⟨w.heap.size, 7, none⟩ = some (.int .i64 A.size) := blk_cell hq.2 7; clear hq; first | (go_simp; done) | (go_simp; with_reducible rfl)
  simp only [Act.put, List.setIfInBounds_toArray, List.set_cons_zero, List.set_cons_succ]
  refine wpAnyH_take (i := 1) (oi := ⟨some 30, _, _, _, _, _⟩) (v := ?_) rfl (by kernel_rfl) (by kernel_rfl) (by kernel_rfl) (fun _ _ _ h => h) (Or.inl ⟨by kernel_rfl, ?_⟩) hH ?_
  rotate_left 1
  · intro wq hq; have r3 : wq.cell? ⟨β.s, 3, none⟩ = some (.pointer (some ⟨β.r, 0, none⟩)) := blk_cell hq.1 3; have q0 : wq.cell? ⟨w.heap.size, 0, none⟩ = some (.int .i64 A.port) := blk_cell hq.2 0; have q1 : wq.cell? ⟨w.heap.size, 1, none⟩ = some (.int .i64 A.id) := blk_cell hq.2 1; have q2 : wq.cell? ⟨w.heap.size, 2, none⟩ = some (.int .i64 A.kind) := blk_cell hq.2 2; have q3 : wq.cell? ⟨w.heap.size, 3, none⟩ = some (.int .u64 A.addr) := blk_cell hq.2 3; have q4 : wq.cell? ⟨w.heap.size, 4, none⟩ = some (.int .i64 A.beats) := blk_cell hq.2 4; have q5 : wq.cell? ⟨w.heap.size, 5, none⟩ = some (.slice A.da A.dl A.dc) := blk_cell hq.2 5; have q6 : wq.cell? ⟨w.heap.size, 6, none⟩ = some (.slice A.sa A.sl A.sc) := blk_cell hq.2 6; have q7 : wq.cell? ⟨w.heap.size, 7, none⟩ = some (.int .i64 A.size) := blk_cell hq.2 7; clear hq; first | (go_simp; done) | (go_simp; with_reducible rfl)
  simp only [Act.put, List.setIfInBounds_toArray, List.set_cons_zero, List.set_cons_succ]
  refine wpAnyH_take (i := 2) (oi := ⟨some 31, _, _, _, _, _⟩) (v := ?_) rfl (by kernel_rfl) (by kernel_rfl) (by kernel_rfl) (fun _ _ _ h => h) (Or.inl ⟨by kernel_rfl, ?_⟩) hH ?_
  rotate_left 1
  · intro wq hq; have r3 : wq.cell? ⟨β.s, 3, none⟩ = some (.pointer (some ⟨β.r, 0, none⟩)) := blk_cell hq.1 3; have q0 : wq.cell? ⟨w.heap.size, 0, none⟩ = some (.int .i64 A.port) := blk_cell hq.2 0; have q1 : wq.cell? ⟨w.heap.size, 1, none⟩ = some (.int .i64 A.id) := blk_cell hq.2 1; have q2 : wq.cell? ⟨w.heap.size, 2, none⟩ = some (.int .i64 A.kind) := blk_cell hq.2 2; have q3 : wq.cell? ⟨w.heap.size, 3, none⟩ = some (.int .u64 A.addr) := blk_cell hq.2 3; have q4 : wq.cell? ⟨w.heap.size, 4, none⟩ = some (.int .i64 A.beats) := blk_cell hq.2 4; have q5 : wq.cell? ⟨w.heap.size, 5, none⟩ = some (.slice A.da A.dl A.dc) := blk_cell hq.2 5; have q6 : wq.cell? ⟨w.heap.size, 6, none⟩ = some (.slice A.sa A.sl A.sc) := blk_cell hq.2 6; have q7 : wq.cell? ⟨w.heap.size, 7, none⟩ = some (.int .i64 A.size) := blk_cell hq.2 7; clear hq; first | (go_simp; done) | (go_simp; with_reducible rfl)
  simp only [Act.put, List.setIfInBounds_toArray, List.set_cons_zero, List.set_cons_succ]
  refine wpAnyH_take (i := 3) (oi := ⟨some 32, _, _, _, _, _⟩) (v := ?_) rfl (by kernel_rfl) (by kernel_rfl) (by kernel_rfl) (fun _ _ _ h => h) (Or.inl ⟨by kernel_rfl, ?_⟩) hH ?_
  rotate_left 1
  · intro wq hq; have r3 : wq.cell? ⟨β.s, 3, none⟩ = some (.pointer (some ⟨β.r, 0, none⟩)) := blk_cell hq.1 3; have q0 : wq.cell? ⟨w.heap.size, 0, none⟩ = some (.int .i64 A.port) := blk_cell hq.2 0; have q1 : wq.cell? ⟨w.heap.size, 1, none⟩ = some (.int .i64 A.id) := blk_cell hq.2 1; have q2 : wq.cell? ⟨w.heap.size, 2, none⟩ = some (.int .i64 A.kind) := blk_cell hq.2 2; have q3 : wq.cell? ⟨w.heap.size, 3, none⟩ = some (.int .u64 A.addr) := blk_cell hq.2 3; have q4 : wq.cell? ⟨w.heap.size, 4, none⟩ = some (.int .i64 A.beats) := blk_cell hq.2 4; have q5 : wq.cell? ⟨w.heap.size, 5, none⟩ = some (.slice A.da A.dl A.dc) := blk_cell hq.2 5; have q6 : wq.cell? ⟨w.heap.size, 6, none⟩ = some (.slice A.sa A.sl A.sc) := blk_cell hq.2 6; have q7 : wq.cell? ⟨w.heap.size, 7, none⟩ = some (.int .i64 A.size) := blk_cell hq.2 7; clear hq; first | (go_simp; done) | (go_simp; with_reducible rfl)
  simp only [Act.put, List.setIfInBounds_toArray, List.set_cons_zero, List.set_cons_succ]
  refine wpAnyH_take (i := 4) (oi := ⟨some 33, _, _, _, _, _⟩) (v := ?_) rfl (by kernel_rfl) (by kernel_rfl) (by kernel_rfl) (fun _ _ _ h => h) (Or.inl ⟨by kernel_rfl, ?_⟩) hH ?_
  rotate_left 1
  · intro wq hq; have r3 : wq.cell? ⟨β.s, 3, none⟩ = some (.pointer (some ⟨β.r, 0, none⟩)) := blk_cell hq.1 3; have q0 : wq.cell? ⟨w.heap.size, 0, none⟩ = some (.int .i64 A.port) := blk_cell hq.2 0; have q1 : wq.cell? ⟨w.heap.size, 1, none⟩ = some (.int .i64 A.id) := blk_cell hq.2 1; have q2 : wq.cell? ⟨w.heap.size, 2, none⟩ = some (.int .i64 A.kind) := blk_cell hq.2 2; have q3 : wq.cell? ⟨w.heap.size, 3, none⟩ = some (.int .u64 A.addr) := blk_cell hq.2 3; have q4 : wq.cell? ⟨w.heap.size, 4, none⟩ = some (.int .i64 A.beats) := blk_cell hq.2 4; have q5 : wq.cell? ⟨w.heap.size, 5, none⟩ = some (.slice A.da A.dl A.dc) := blk_cell hq.2 5; have q6 : wq.cell? ⟨w.heap.size, 6, none⟩ = some (.slice A.sa A.sl A.sc) := blk_cell hq.2 6; have q7 : wq.cell? ⟨w.heap.size, 7, none⟩ = some (.int .i64 A.size) := blk_cell hq.2 7; clear hq; first | (go_simp; done) | (go_simp; with_reducible rfl)
  simp only [Act.put, List.setIfInBounds_toArray, List.set_cons_zero, List.set_cons_succ]
  refine wpAnyH_take (i := 5) (oi := ⟨some 34, _, _, _, _, _⟩) (v := ?_) rfl (by kernel_rfl) (by kernel_rfl) (by kernel_rfl) (fun _ _ _ h => h) (Or.inl ⟨by kernel_rfl, ?_⟩) hH ?_
  rotate_left 1
  · intro wq hq; have r3 : wq.cell? ⟨β.s, 3, none⟩ = some (.pointer (some ⟨β.r, 0, none⟩)) := blk_cell hq.1 3; have q0 : wq.cell? ⟨w.heap.size, 0, none⟩ = some (.int .i64 A.port) := blk_cell hq.2 0; have q1 : wq.cell? ⟨w.heap.size, 1, none⟩ = some (.int .i64 A.id) := blk_cell hq.2 1; have q2 : wq.cell? ⟨w.heap.size, 2, none⟩ = some (.int .i64 A.kind) := blk_cell hq.2 2; have q3 : wq.cell? ⟨w.heap.size, 3, none⟩ = some (.int .u64 A.addr) := blk_cell hq.2 3; have q4 : wq.cell? ⟨w.heap.size, 4, none⟩ = some (.int .i64 A.beats) := blk_cell hq.2 4; have q5 : wq.cell? ⟨w.heap.size, 5, none⟩ = some (.slice A.da A.dl A.dc) := blk_cell hq.2 5; have q6 : wq.cell? ⟨w.heap.size, 6, none⟩ = some (.slice A.sa A.sl A.sc) := blk_cell hq.2 6; have q7 : wq.cell? ⟨w.heap.size, 7, none⟩ = some (.int .i64 A.size) := blk_cell hq.2 7; clear hq; first | (go_simp; done) | (go_simp; with_reducible rfl)
  simp only [Act.put, List.setIfInBounds_toArray, List.set_cons_zero, List.set_cons_succ]
  refine wpAnyH_take (i := 6) (oi := ⟨some 35, _, _, _, _, _⟩) (v := ?_) rfl (by kernel_rfl) (by kernel_rfl) (by kernel_rfl) (fun _ _ _ h => h) (Or.inl ⟨by kernel_rfl, ?_⟩) hH ?_
  rotate_left 1
  · intro wq hq; have r3 : wq.cell? ⟨β.s, 3, none⟩ = some (.pointer (some ⟨β.r, 0, none⟩)) := blk_cell hq.1 3; have q0 : wq.cell? ⟨w.heap.size, 0, none⟩ = some (.int .i64 A.port) := blk_cell hq.2 0; have q1 : wq.cell? ⟨w.heap.size, 1, none⟩ = some (.int .i64 A.id) := blk_cell hq.2 1; have q2 : wq.cell? ⟨w.heap.size, 2, none⟩ = some (.int .i64 A.kind) := blk_cell hq.2 2; have q3 : wq.cell? ⟨w.heap.size, 3, none⟩ = some (.int .u64 A.addr) := blk_cell hq.2 3; have q4 : wq.cell? ⟨w.heap.size, 4, none⟩ = some (.int .i64 A.beats) := blk_cell hq.2 4; have q5 : wq.cell? ⟨w.heap.size, 5, none⟩ = some (.slice A.da A.dl A.dc) := blk_cell hq.2 5; have q6 : wq.cell? ⟨w.heap.size, 6, none⟩ = some (.slice A.sa A.sl A.sc) := blk_cell hq.2 6; have q7 : wq.cell? ⟨w.heap.size, 7, none⟩ = some (.int .i64 A.size) := blk_cell hq.2 7; clear hq; first | (go_simp; done) | (go_simp; with_reducible rfl)
  simp only [Act.put, List.setIfInBounds_toArray, List.set_cons_zero, List.set_cons_succ]
  refine wpAnyH_ready (rs := [7]) (by kernel_rfl) (by simp) (AllReadyH.cons (o := ⟨some 36, _, _, _, _, _⟩) rfl (fun K hK => ?_) AllReadyH.nil)
  go_simp
  refine (HW.out _ (below_then HB0.out HB1.out.drew HB0.out.size)).mono ?_
  rintro e w3 ⟨v, rfl, ho, hb⟩
  have HO := Lib.hid ho
  have HB2 : Hid (Below wb.heap.size wb w3) := below_then HB1.out.drew hb HB1.out.drew.size
  clear hb ho
  go_wp2_with fail
  refine hK.out _ _ (HR4.out _ HB2.out) (fun hH => ?_)
  clear hK K
  try simp only [Act.put, List.setIfInBounds_toArray, List.set_cons_zero, List.set_cons_succ]
  refine wpAnyH_take (i := 8) (oi := ⟨some 37, _, _, _, _, _⟩) (v := ?_) rfl (by kernel_rfl) (by kernel_rfl) (by kernel_rfl) (fun _ _ _ h => h) (Or.inl ⟨by kernel_rfl, ?_⟩) hH ?_
  rotate_left 1
  · intro wq hq; have r3 : wq.cell? ⟨β.s, 3, none⟩ = some (.pointer (some ⟨β.r, 0, none⟩)) := blk_cell hq.1 3; have q0 : wq.cell? ⟨w.heap.size, 0, none⟩ = some (.int .i64 A.port) := blk_cell hq.2 0; have q1 : wq.cell? ⟨w.heap.size, 1, none⟩ = some (.int .i64 A.id) := blk_cell hq.2 1; have q2 : wq.cell? ⟨w.heap.size, 2, none⟩ = some (.int .i64 A.kind) := blk_cell hq.2 2; have q3 : wq.cell? ⟨w.heap.size, 3, none⟩ = some (.int .u64 A.addr) := blk_cell hq.2 3; have q4 : wq.cell? ⟨w.heap.size, 4, none⟩ = some (.int .i64 A.beats) := blk_cell hq.2 4; have q5 : wq.cell? ⟨w.heap.size, 5, none⟩ = some (.slice A.da A.dl A.dc) := blk_cell hq.2 5; have q6 : wq.cell? ⟨w.heap.size, 6, none⟩ = some (.slice A.sa A.sl A.sc) := blk_cell hq.2 6; have q7 : wq.cell? ⟨w.heap.size, 7, none⟩ = some (.int .i64 A.size) := blk_cell hq.2 7; clear hq; first | (go_simp; done) | (go_simp; with_reducible rfl)
  simp only [Act.put, List.setIfInBounds_toArray, List.set_cons_zero, List.set_cons_succ]
  refine wpAnyH_take (i := 9) (oi := ⟨some 38, _, _, _, _, _⟩) (v := ?_) rfl (by kernel_rfl) (by kernel_rfl) (by kernel_rfl) (fun _ _ _ h => h) (Or.inl ⟨by kernel_rfl, ?_⟩) hH ?_
  rotate_left 1
  · intro wq hq; have r3 : wq.cell? ⟨β.s, 3, none⟩ = some (.pointer (some ⟨β.r, 0, none⟩)) := blk_cell hq.1 3; have q0 : wq.cell? ⟨w.heap.size, 0, none⟩ = some (.int .i64 A.port) := blk_cell hq.2 0; have q1 : wq.cell? ⟨w.heap.size, 1, none⟩ = some (.int .i64 A.id) := blk_cell hq.2 1; have q2 : wq.cell? ⟨w.heap.size, 2, none⟩ = some (.int .i64 A.kind) := blk_cell hq.2 2; have q3 : wq.cell? ⟨w.heap.size, 3, none⟩ = some (.int .u64 A.addr) := blk_cell hq.2 3; have q4 : wq.cell? ⟨w.heap.size, 4, none⟩ = some (.int .i64 A.beats) := blk_cell hq.2 4; have q5 : wq.cell? ⟨w.heap.size, 5, none⟩ = some (.slice A.da A.dl A.dc) := blk_cell hq.2 5; have q6 : wq.cell? ⟨w.heap.size, 6, none⟩ = some (.slice A.sa A.sl A.sc) := blk_cell hq.2 6; have q7 : wq.cell? ⟨w.heap.size, 7, none⟩ = some (.int .i64 A.size) := blk_cell hq.2 7; clear hq; first | (go_simp; done) | (go_simp; with_reducible rfl)
  simp only [Act.put, List.setIfInBounds_toArray, List.set_cons_zero, List.set_cons_succ]
  refine wpAnyH_take (i := 10) (oi := ⟨some 6, _, _, _, _, _⟩) (v := ?_) rfl (by kernel_rfl) (by kernel_rfl) (by kernel_rfl) (fun _ _ _ h => h) (Or.inl ⟨by kernel_rfl, ?_⟩) hH ?_
  rotate_left 1
  · intro wq hq; have r3 : wq.cell? ⟨β.s, 3, none⟩ = some (.pointer (some ⟨β.r, 0, none⟩)) := blk_cell hq.1 3; have q0 : wq.cell? ⟨w.heap.size, 0, none⟩ = some (.int .i64 A.port) := blk_cell hq.2 0; have q1 : wq.cell? ⟨w.heap.size, 1, none⟩ = some (.int .i64 A.id) := blk_cell hq.2 1; have q2 : wq.cell? ⟨w.heap.size, 2, none⟩ = some (.int .i64 A.kind) := blk_cell hq.2 2; have q3 : wq.cell? ⟨w.heap.size, 3, none⟩ = some (.int .u64 A.addr) := blk_cell hq.2 3; have q4 : wq.cell? ⟨w.heap.size, 4, none⟩ = some (.int .i64 A.beats) := blk_cell hq.2 4; have q5 : wq.cell? ⟨w.heap.size, 5, none⟩ = some (.slice A.da A.dl A.dc) := blk_cell hq.2 5; have q6 : wq.cell? ⟨w.heap.size, 6, none⟩ = some (.slice A.sa A.sl A.sc) := blk_cell hq.2 6; have q7 : wq.cell? ⟨w.heap.size, 7, none⟩ = some (.int .i64 A.size) := blk_cell hq.2 7; clear hq; first | (go_simp; done) | (go_simp; with_reducible rfl)
  simp only [Act.put, List.setIfInBounds_toArray, List.set_cons_zero, List.set_cons_succ]
  refine wpAnyH_take (i := 11) (oi := ⟨some 7, _, _, _, _, _⟩) (v := ?_) rfl (by kernel_rfl) (by kernel_rfl) (by kernel_rfl) (fun _ _ _ h => h) (Or.inl ⟨by kernel_rfl, ?_⟩) hH ?_
  rotate_left 1
  · intro wq hq; have r3 : wq.cell? ⟨β.s, 3, none⟩ = some (.pointer (some ⟨β.r, 0, none⟩)) := blk_cell hq.1 3; have q0 : wq.cell? ⟨w.heap.size, 0, none⟩ = some (.int .i64 A.port) := blk_cell hq.2 0; have q1 : wq.cell? ⟨w.heap.size, 1, none⟩ = some (.int .i64 A.id) := blk_cell hq.2 1; have q2 : wq.cell? ⟨w.heap.size, 2, none⟩ = some (.int .i64 A.kind) := blk_cell hq.2 2; have q3 : wq.cell? ⟨w.heap.size, 3, none⟩ = some (.int .u64 A.addr) := blk_cell hq.2 3; have q4 : wq.cell? ⟨w.heap.size, 4, none⟩ = some (.int .i64 A.beats) := blk_cell hq.2 4; have q5 : wq.cell? ⟨w.heap.size, 5, none⟩ = some (.slice A.da A.dl A.dc) := blk_cell hq.2 5; have q6 : wq.cell? ⟨w.heap.size, 6, none⟩ = some (.slice A.sa A.sl A.sc) := blk_cell hq.2 6; have q7 : wq.cell? ⟨w.heap.size, 7, none⟩ = some (.int .i64 A.size) := blk_cell hq.2 7; clear hq; first | (go_simp; done) | (go_simp; with_reducible rfl)
  simp only [Act.put, List.setIfInBounds_toArray, List.set_cons_zero, List.set_cons_succ]
  refine wpAnyH_done (by kernel_rfl) ?_ _
  clear hH
  go_wp2
  go_ret2
  refine (HF.out _ _).2 ⟨v, rfl, ?_, below_then HB0.out HB2.out HB0.out.size⟩
  exact own_le HO.out (Nat.le_trans HB0.out.size HB1.out.drew.size)

theorem ld_rep (x : Value) : Instr.loadAt 40 x = loadS 40 x := rfl
theorem st_rep (x v : Value) : Instr.storeAt 40 x v = storeS 40 x v := rfl
theorem rl_rep (w : World) (g : Nat) (h : rowIs w g 4 = true) : (loadS 40 (.pointer (some ⟨g, 0, none⟩))).run Try.prog w = .ok (.agg (rowOf w g)) w :=
  run_loadS Try.prog 40 _ 4 Try.underlying40 rfl (by kernel_rfl) w g h
theorem rs_rep (w : World) (g : Nat) (C : Array Value) (h : rowIs w g 4 = true) (hC : stOk 4 C = true) : (storeS 40 (.pointer (some ⟨g, 0, none⟩)) (.agg C)).run Try.prog w = .ok () (w.setRow g C) :=
  run_storeS' Try.prog 40 4 (by kernel_rfl) w g C h hC
theorem ld_ask (x : Value) : Instr.loadAt 43 x = loadS 43 x := rfl
theorem rl_ask (w : World) (g : Nat) (h : rowIs w g 8 = true) : (loadS 43 (.pointer (some ⟨g, 0, none⟩))).run Try.prog w = .ok (.agg (rowOf w g)) w :=
  run_loadS Try.prog 43 _ 8 Try.underlying43 rfl (by kernel_rfl) w g h
theorem st_ok4 (a b : Int) (x : Option Addr) (n c : Nat) (e : Bool) : stOk 4 #[.int .i64 a, .int .i64 b, .slice x n c, .bool e] = true := by simp [stOk, Value.oneCell']
section
attribute [local go_sem] row_alloc row_drew row_drewN is_alloc is_drew is_drewN row_setCell is_setCell setRow_alloc_new objRow_cells objIs_cells row_setRow_same row_setRow_other is_setRow_same is_setRow_other
theorem made_row (w : World) (n : Nat) (hn : n ≤ 1000) {B : Nat} (hB : B ≤ w.heap.size) : (w.alloc (.cells (madeCells #[.int .u8 0] n) 5)).ownsRow B 5 1 (.slice (some ⟨w.heap.size, 0, none⟩) n n) n ((List.replicate n (0 : Int)).map (Value.int .u8)) := by
  refine ⟨by simp, .inr ⟨w.heap.size, n, _, rfl, hB, blk_alloc _ _, Nat.le_refl _, by unfold maxLen; omega, ?_, ?_⟩⟩
  · simp [madeCells]
  · apply List.ext_getElem?
    intro i
    by_cases hi : i < n
    · simp [madeCells, hi, Array.getElem?_range]
      rw [Nat.mod_one]; rfl
    · simp [madeCells, hi]
theorem blk_keep {w : World} {b g : Nat} {C : Array Value} {T : TypeId} (h : w.heap[b]? = some (.cells C T (0, 0))) (hne : g ≠ b) (o : Nat) (v : Value) : (w.setCell ⟨g, o, none⟩ v).heap[b]? = some (.cells C T (0, 0)) := (blk_set_ne _ _ hne).trans h
theorem below_set {B : Nat} {a w : World} (h : Below B a w) {g : Nat} (hg : B ≤ g) (o : Nat) (v : Value) : Below B a (w.setCell ⟨g, o, none⟩ v) := by
  have hs : w.heap.size = (w.setCell ⟨g, o, none⟩ v).heap.size := by simp [World.setCell]
  exact ⟨h.os, h.tape, h.output, by rw [← hs]; exact h.size, fun k hk => (blk_set_ne _ _ (by show g ≠ k; omega)).trans (h.block k hk)⟩
set_option maxHeartbeats 4000000 in
theorem soc_serve_r {w : World} {β : SocB} {σ : SocS} {lg sn : Value} {SR : Nat → Prop} (h : SocIs w β σ lg sn SR) (A : AskS) (hx : A.addr < 2 ^ 64) (hk : (pmaFind σ.n A.addr).1 ≠ 1) (hkind : A.kind = 1) (hsize : A.size = 0) (hbeats : A.beats ≤ 8) :
    Calls Try.prog 13 #[.pointer (some ⟨β.s, 0, none⟩), .agg A.cells] w (SrvIs w A (readE σ.n A.addr (8 * (A.beats : Int)) != 0) (if readE σ.n A.addr (8 * (A.beats : Int)) = 0 then readL σ.n σ.ct A.addr (8 * (A.beats : Int)) else List.replicate (8 * A.beats) 0)) := by
  have HL : Hid (∀ W, Below w.heap.size w W → Calls Try.prog 44 #[.pointer (some ⟨β.s, 0, none⟩), .agg A.cells, .int .i64 (8 * (A.beats : Int))] W (ReadA W (readE σ.n A.addr (8 * (A.beats : Int))) (readL σ.n σ.ct A.addr (8 * (A.beats : Int))))) := fun W hb => by
    have := soc_lines5 (h.below hb) A hx hk (8 * A.beats) (by omega)
    rw [show ((8 * A.beats : Nat) : Int) = 8 * (A.beats : Int) by omega] at this
    exact this
  have e1 : max (A.beats : Int) 0 = A.beats := by omega
  have e2 : min (A.beats : Int) 8 = A.beats := by omega
  have e3 : (A.beats : Int) ≤ 8 := by omega
  unfold ReadA at HL
  clear h hx hk hbeats
  obtain ⟨port, id, kind, addr, beats, da, dl, dc, sa, sl, sc, size⟩ := A
  obtain rfl : kind = 1 := hkind
  obtain rfl : size = 0 := hsize
  have HF : Hid (∀ er l e w', SrvIs w ⟨port, id, 1, addr, beats, da, dl, dc, sa, sl, sc, 0⟩ er l e w' ↔ ∃ a c, e = .returned (.agg #[.int .i64 port, .int .i64 id, .slice a l.length c, .bool er]) ∧ w'.ownsRow w.heap.size 5 1 (.slice a l.length c) l.length (l.map (Value.int .u8)) ∧ Below w.heap.size w w') := fun _ _ _ _ => Iff.rfl
  simp only [AskS.cells] at *
  generalize readE σ.n addr (8 * (beats : Int)) = er at *
  generalize readL σ.n σ.ct addr (8 * (beats : Int)) = li at *
  have HB0 : Hid (Below w.heap.size w (((w.alloc (Obj.cells #[.int .i64 port, .int .i64 id, .int .i64 1, .int .u64 addr, .int .i64 beats, .slice da dl dc, .slice sa sl sc, .int .i64 0] 43)).alloc (Obj.cells #[.int .i64 0, .int .i64 0, .slice none 0 0, .bool false] 40)).alloc (Obj.cells #[.int .i64 0, .int .i64 0, .slice none 0 0, .bool true] 40))) := base3 _ _ _ _
  have A0 : (((w.alloc (Obj.cells #[.int .i64 port, .int .i64 id, .int .i64 1, .int .u64 addr, .int .i64 beats, .slice da dl dc, .slice sa sl sc, .int .i64 0] 43)).alloc (Obj.cells #[.int .i64 0, .int .i64 0, .slice none 0 0, .bool false] 40)).alloc (Obj.cells #[.int .i64 0, .int .i64 0, .slice none 0 0, .bool true] 40)).heap[w.heap.size]? = some (.cells #[.int .i64 port, .int .i64 id, .int .i64 1, .int .u64 addr, .int .i64 beats, .slice da dl dc, .slice sa sl sc, .int .i64 0] 43 (0, 0)) := (blk_below (((Below.refl _ _).alloc (Nat.le_refl _) _).alloc (by simp) _) (by simp) (blk_alloc _ _))
  have A1 : (((w.alloc (Obj.cells #[.int .i64 port, .int .i64 id, .int .i64 1, .int .u64 addr, .int .i64 beats, .slice da dl dc, .slice sa sl sc, .int .i64 0] 43)).alloc (Obj.cells #[.int .i64 0, .int .i64 0, .slice none 0 0, .bool false] 40)).alloc (Obj.cells #[.int .i64 0, .int .i64 0, .slice none 0 0, .bool true] 40)).heap[w.heap.size + 1]? = some (.cells #[.int .i64 0, .int .i64 0, .slice none 0 0, .bool false] 40 (0, 0)) := third_is _ _ _ _ _
  have A2 : (((w.alloc (Obj.cells #[.int .i64 port, .int .i64 id, .int .i64 1, .int .u64 addr, .int .i64 beats, .slice da dl dc, .slice sa sl sc, .int .i64 0] 43)).alloc (Obj.cells #[.int .i64 0, .int .i64 0, .slice none 0 0, .bool false] 40)).alloc (Obj.cells #[.int .i64 0, .int .i64 0, .slice none 0 0, .bool true] 40)).heap[w.heap.size + 1 + 1]? = some (.cells #[.int .i64 0, .int .i64 0, .slice none 0 0, .bool true] 40 (0, 0)) := by have := blk_alloc ((w.alloc (Obj.cells #[.int .i64 port, .int .i64 id, .int .i64 1, .int .u64 addr, .int .i64 beats, .slice da dl dc, .slice sa sl sc, .int .i64 0] 43)).alloc (Obj.cells #[.int .i64 0, .int .i64 0, .slice none 0 0, .bool false] 40)) (Obj.cells #[.int .i64 0, .int .i64 0, .slice none 0 0, .bool true] 40); simpa using this
  have HA0 := Lib.hid A0
  have HA1 := Lib.hid A1
  have HA2 := Lib.hid A2
  clear A0 A1 A2
  go_enter Try.func13, Try.ntmps13
  go_wp2_with fail
  all_goals
    generalize (((w.alloc (Obj.cells #[.int .i64 port, .int .i64 id, .int .i64 1, .int .u64 addr, .int .i64 beats, .slice da dl dc, .slice sa sl sc, .int .i64 0] 43)).alloc (Obj.cells #[.int .i64 0, .int .i64 0, .slice none 0 0, .bool false] 40)).alloc (Obj.cells #[.int .i64 0, .int .i64 0, .slice none 0 0, .bool true] 40)) = wb at *
    refine (HL.out _ HB0.out).mono ?_
    rintro e w3 ⟨v, rfl, ho, hb⟩
    obtain ⟨aa, cc, rfl⟩ := own_form ho
    have HO := Lib.hid (own_le ho HB0.out.size)
    have HBW := Lib.hid (below_then HB0.out hb HB0.out.size)
    have A0 := blk_below hb (blk_lt HA0.out) HA0.out
    have A1 := blk_below hb (blk_lt HA1.out) HA1.out
    have A2 := blk_below hb (blk_lt HA2.out) HA2.out
    clear HA0 HA1 HA2 HB0 ho hb HL
    have HA0 := Lib.hid A0
    have HA1 := Lib.hid A1
    have HA2 := Lib.hid A2
    clear A0 A1 A2
    have q0 : w3.cell? ⟨w.heap.size, 0, none⟩ = some (.int .i64 port) := blk_cell HA0.out 0
    have q1 : w3.cell? ⟨w.heap.size, 1, none⟩ = some (.int .i64 id) := blk_cell HA0.out 1
    have q2 : w3.cell? ⟨w.heap.size, 2, none⟩ = some (.int .i64 1) := blk_cell HA0.out 2
    have q3 : w3.cell? ⟨w.heap.size, 3, none⟩ = some (.int .u64 addr) := blk_cell HA0.out 3
    have q4 : w3.cell? ⟨w.heap.size, 4, none⟩ = some (.int .i64 beats) := blk_cell HA0.out 4
    have q5 : w3.cell? ⟨w.heap.size, 5, none⟩ = some (.slice da dl dc) := blk_cell HA0.out 5
    have q6 : w3.cell? ⟨w.heap.size, 6, none⟩ = some (.slice sa sl sc) := blk_cell HA0.out 6
    have q7 : w3.cell? ⟨w.heap.size, 7, none⟩ = some (.int .i64 0) := blk_cell HA0.out 7
    have a0 : w3.cell? ⟨w.heap.size + 1, 0, none⟩ = some (.int .i64 0) := blk_cell HA1.out 0
    have a1 : w3.cell? ⟨w.heap.size + 1, 1, none⟩ = some (.int .i64 0) := blk_cell HA1.out 1
    have a2 : w3.cell? ⟨w.heap.size + 1, 2, none⟩ = some (.slice none 0 0) := blk_cell HA1.out 2
    have a3 : w3.cell? ⟨w.heap.size + 1, 3, none⟩ = some (.bool false) := blk_cell HA1.out 3
    have b0 : w3.cell? ⟨w.heap.size + 1 + 1, 0, none⟩ = some (.int .i64 0) := blk_cell HA2.out 0
    have b1 : w3.cell? ⟨w.heap.size + 1 + 1, 1, none⟩ = some (.int .i64 0) := blk_cell HA2.out 1
    have b2 : w3.cell? ⟨w.heap.size + 1 + 1, 2, none⟩ = some (.slice none 0 0) := blk_cell HA2.out 2
    have b3 : w3.cell? ⟨w.heap.size + 1 + 1, 3, none⟩ = some (.bool true) := blk_cell HA2.out 3
    have f0 : w3.frozen? ⟨w.heap.size + 1 + 1, 0, none⟩ = false := blk_frozen HA2.out 0
    have f1 : w3.frozen? ⟨w.heap.size + 1 + 1, 1, none⟩ = false := blk_frozen HA2.out 1
    have f2 : w3.frozen? ⟨w.heap.size + 1 + 1, 2, none⟩ = false := blk_frozen HA2.out 2
    have f3 : w3.frozen? ⟨w.heap.size + 1 + 1, 3, none⟩ = false := blk_frozen HA2.out 3
    have g0 : w3.frozen? ⟨w.heap.size + 1, 0, none⟩ = false := blk_frozen HA1.out 0
    have g1 : w3.frozen? ⟨w.heap.size + 1, 1, none⟩ = false := blk_frozen HA1.out 1
    have g2 : w3.frozen? ⟨w.heap.size + 1, 2, none⟩ = false := blk_frozen HA1.out 2
    have g3 : w3.frozen? ⟨w.heap.size + 1, 3, none⟩ = false := blk_frozen HA1.out 3
    by_cases he : er = 0
    · subst he
      go_upto_region 14 with fail
      all_goals
        have Z0 : ((((w3.setCell ⟨w.heap.size + 1 + 1, 0, none⟩ (.int .i64 0)).setCell ⟨w.heap.size + 1 + 1, 1, none⟩ (.int .i64 0)).setCell ⟨w.heap.size + 1 + 1, 2, none⟩ (.slice aa li.length cc)).setCell ⟨w.heap.size + 1 + 1, 3, none⟩ (.bool false)).heap[w.heap.size]? = some (.cells #[.int .i64 port, .int .i64 id, .int .i64 1, .int .u64 addr, .int .i64 beats, .slice da dl dc, .slice sa sl sc, .int .i64 0] 43 (0, 0)) := (blk_keep (blk_keep (blk_keep (blk_keep HA0.out (by omega) 0 _) (by omega) 1 _) (by omega) 2 _) (by omega) 3 _)
        have Z1 : ((((w3.setCell ⟨w.heap.size + 1 + 1, 0, none⟩ (.int .i64 0)).setCell ⟨w.heap.size + 1 + 1, 1, none⟩ (.int .i64 0)).setCell ⟨w.heap.size + 1 + 1, 2, none⟩ (.slice aa li.length cc)).setCell ⟨w.heap.size + 1 + 1, 3, none⟩ (.bool false)).heap[w.heap.size + 1]? = some (.cells #[.int .i64 0, .int .i64 0, .slice none 0 0, .bool false] 40 (0, 0)) := (blk_keep (blk_keep (blk_keep (blk_keep HA1.out (by omega) 0 _) (by omega) 1 _) (by omega) 2 _) (by omega) 3 _)
        have Z2 : ((((w3.setCell ⟨w.heap.size + 1 + 1, 0, none⟩ (.int .i64 0)).setCell ⟨w.heap.size + 1 + 1, 1, none⟩ (.int .i64 0)).setCell ⟨w.heap.size + 1 + 1, 2, none⟩ (.slice aa li.length cc)).setCell ⟨w.heap.size + 1 + 1, 3, none⟩ (.bool false)).heap[w.heap.size + 1 + 1]? = some (.cells #[.int .i64 0, .int .i64 0, .slice aa li.length cc, .bool false] 40 (0, 0)) := (blk_set (blk_set (blk_set (blk_set HA2.out 0 _) 1 _) 2 _) 3 _)
        have ZB : Below w.heap.size w ((((w3.setCell ⟨w.heap.size + 1 + 1, 0, none⟩ (.int .i64 0)).setCell ⟨w.heap.size + 1 + 1, 1, none⟩ (.int .i64 0)).setCell ⟨w.heap.size + 1 + 1, 2, none⟩ (.slice aa li.length cc)).setCell ⟨w.heap.size + 1 + 1, 3, none⟩ (.bool false)) := (below_set (below_set (below_set (below_set HBW.out (by omega) 0 _) (by omega) 1 _) (by omega) 2 _) (by omega) 3 _)
        have ZT : Turned (fun k => k = w.heap.size + 1 ∨ k = w.heap.size + 1 + 1) w3 ((((w3.setCell ⟨w.heap.size + 1 + 1, 0, none⟩ (.int .i64 0)).setCell ⟨w.heap.size + 1 + 1, 1, none⟩ (.int .i64 0)).setCell ⟨w.heap.size + 1 + 1, 2, none⟩ (.slice aa li.length cc)).setCell ⟨w.heap.size + 1 + 1, 3, none⟩ (.bool false)) := (((((Turned.refl _ _).set (.inl (.inr rfl)) 0 _).set (.inl (.inr rfl)) 1 _).set (.inl (.inr rfl)) 2 _).set (.inl (.inr rfl)) 3 _)
        generalize ((((w3.setCell ⟨w.heap.size + 1 + 1, 0, none⟩ (.int .i64 0)).setCell ⟨w.heap.size + 1 + 1, 1, none⟩ (.int .i64 0)).setCell ⟨w.heap.size + 1 + 1, 2, none⟩ (.slice aa li.length cc)).setCell ⟨w.heap.size + 1 + 1, 3, none⟩ (.bool false)) = wz at *
        have HZ0 : Hid (wz.drew.heap[w.heap.size]? = some (.cells #[.int .i64 port, .int .i64 id, .int .i64 1, .int .u64 addr, .int .i64 beats, .slice da dl dc, .slice sa sl sc, .int .i64 0] 43 (0, 0))) := Z0
        have HZ1 : Hid (wz.drew.heap[w.heap.size + 1]? = some (.cells #[.int .i64 0, .int .i64 0, .slice none 0 0, .bool false] 40 (0, 0))) := Z1
        have HZ2 : Hid (wz.drew.heap[w.heap.size + 1 + 1]? = some (.cells #[.int .i64 0, .int .i64 0, .slice aa li.length cc, .bool false] 40 (0, 0))) := Z2
        have HZB : Hid (Below w.heap.size w wz.drew) := ZB.drew
        have HZT : Hid (Turned (fun k => k = w.heap.size + 1 ∨ k = w.heap.size + 1 + 1) w3 wz.drew) := ZT.drew
        refine wp_region_held_drew (S := fun wq => wq.heap[w.heap.size]? = some (.cells #[.int .i64 port, .int .i64 id, .int .i64 1, .int .u64 addr, .int .i64 beats, .slice da dl dc, .slice sa sl sc, .int .i64 0] 43 (0, 0))) (by kernel_rfl) Z0 (fun hH => ?_)
        generalize wz.drew = wd at *
        clear Z0 Z1 Z2 ZB ZT
        have b0 : wd.cell? ⟨w.heap.size + 1 + 1, 0, none⟩ = some (.int .i64 0) := blk_cell HZ2.out 0
        have b1 : wd.cell? ⟨w.heap.size + 1 + 1, 1, none⟩ = some (.int .i64 0) := blk_cell HZ2.out 1
        have b2 : wd.cell? ⟨w.heap.size + 1 + 1, 2, none⟩ = some (.slice aa li.length cc) := blk_cell HZ2.out 2
        have b3 : wd.cell? ⟨w.heap.size + 1 + 1, 3, none⟩ = some (.bool false) := blk_cell HZ2.out 3
        have a0 : wd.cell? ⟨w.heap.size + 1, 0, none⟩ = some (.int .i64 0) := blk_cell HZ1.out 0
        have a1 : wd.cell? ⟨w.heap.size + 1, 1, none⟩ = some (.int .i64 0) := blk_cell HZ1.out 1
        have a2 : wd.cell? ⟨w.heap.size + 1, 2, none⟩ = some (.slice none 0 0) := blk_cell HZ1.out 2
        have a3 : wd.cell? ⟨w.heap.size + 1, 3, none⟩ = some (.bool false) := blk_cell HZ1.out 3
        have f0 : wd.frozen? ⟨w.heap.size + 1 + 1, 0, none⟩ = false := blk_frozen HZ2.out 0
        have f1 : wd.frozen? ⟨w.heap.size + 1 + 1, 1, none⟩ = false := blk_frozen HZ2.out 1
        have g0 : wd.frozen? ⟨w.heap.size + 1, 0, none⟩ = false := blk_frozen HZ1.out 0
        have g1 : wd.frozen? ⟨w.heap.size + 1, 1, none⟩ = false := blk_frozen HZ1.out 1
        have g2 : wd.frozen? ⟨w.heap.size + 1, 2, none⟩ = false := blk_frozen HZ1.out 2
        have g3 : wd.frozen? ⟨w.heap.size + 1, 3, none⟩ = false := blk_frozen HZ1.out 3
        refine wpAnyH_take (i := 0) (oi := ⟨some 68, _, _, _, _, _⟩) (v := ?_) rfl (by kernel_rfl) (by kernel_rfl) (by kernel_rfl) (fun _ _ _ h => h) (Or.inl ⟨by kernel_rfl, ?_⟩) hH ?_
        rotate_left 1
        · intro wq hq; have q0 : wq.cell? ⟨w.heap.size, 0, none⟩ = some (.int .i64 port) := blk_cell hq 0; have q1 : wq.cell? ⟨w.heap.size, 1, none⟩ = some (.int .i64 id) := blk_cell hq 1; clear hq; first | (go_simp; done) | (go_simp; with_reducible rfl)
        simp only [Act.put, List.setIfInBounds_toArray, List.set_cons_zero, List.set_cons_succ]
        refine wpAnyH_take (i := 1) (oi := ⟨some 69, _, _, _, _, _⟩) (v := ?_) rfl (by kernel_rfl) (by kernel_rfl) (by kernel_rfl) (fun _ _ _ h => h) (Or.inl ⟨by kernel_rfl, ?_⟩) hH ?_
        rotate_left 1
        · intro wq hq; have q0 : wq.cell? ⟨w.heap.size, 0, none⟩ = some (.int .i64 port) := blk_cell hq 0; have q1 : wq.cell? ⟨w.heap.size, 1, none⟩ = some (.int .i64 id) := blk_cell hq 1; clear hq; first | (go_simp; done) | (go_simp; with_reducible rfl)
        simp only [Act.put, List.setIfInBounds_toArray, List.set_cons_zero, List.set_cons_succ]
        refine wpAnyH_take (i := 2) (oi := ⟨some 70, _, _, _, _, _⟩) (v := ?_) rfl (by kernel_rfl) (by kernel_rfl) (by kernel_rfl) (fun _ _ _ h => h) (Or.inl ⟨by kernel_rfl, ?_⟩) hH ?_
        rotate_left 1
        · intro wq hq; have q0 : wq.cell? ⟨w.heap.size, 0, none⟩ = some (.int .i64 port) := blk_cell hq 0; have q1 : wq.cell? ⟨w.heap.size, 1, none⟩ = some (.int .i64 id) := blk_cell hq 1; clear hq; first | (go_simp; done) | (go_simp; with_reducible rfl)
        simp only [Act.put, List.setIfInBounds_toArray, List.set_cons_zero, List.set_cons_succ]
        refine wpAnyH_take (i := 3) (oi := ⟨some 71, _, _, _, _, _⟩) (v := ?_) rfl (by kernel_rfl) (by kernel_rfl) (by kernel_rfl) (fun _ _ _ h => h) (Or.inl ⟨by kernel_rfl, ?_⟩) hH ?_
        rotate_left 1
        · intro wq hq; have q0 : wq.cell? ⟨w.heap.size, 0, none⟩ = some (.int .i64 port) := blk_cell hq 0; have q1 : wq.cell? ⟨w.heap.size, 1, none⟩ = some (.int .i64 id) := blk_cell hq 1; clear hq; first | (go_simp; done) | (go_simp; with_reducible rfl)
        simp only [Act.put, List.setIfInBounds_toArray, List.set_cons_zero, List.set_cons_succ]
        refine wpAnyH_take (i := 4) (oi := ⟨some 72, _, _, _, _, _⟩) (v := ?_) rfl (by kernel_rfl) (by kernel_rfl) (by kernel_rfl) (fun _ _ _ h => h) (Or.inl ⟨by kernel_rfl, ?_⟩) hH ?_
        rotate_left 1
        · intro wq hq; have q0 : wq.cell? ⟨w.heap.size, 0, none⟩ = some (.int .i64 port) := blk_cell hq 0; have q1 : wq.cell? ⟨w.heap.size, 1, none⟩ = some (.int .i64 id) := blk_cell hq 1; clear hq; first | (go_simp; done) | (go_simp; with_reducible rfl)
        simp only [Act.put, List.setIfInBounds_toArray, List.set_cons_zero, List.set_cons_succ]
        refine wpAnyH_ready (rs := [5]) (by kernel_rfl) (by simp) (AllReadyH.cons (o := ⟨none, _, _, _, _, _⟩) rfl (fun K hK => ?_) AllReadyH.nil)
        go_simp
        skip
        refine hK.out _ _ (blk_keep HZ0.out (by omega) _ _) (fun hH => ?_)
        clear hK K
        try simp only [Act.put, List.setIfInBounds_toArray, List.set_cons_zero, List.set_cons_succ]
        refine wpAnyH_take (i := 6) (oi := ⟨some 73, _, _, _, _, _⟩) (v := ?_) rfl (by kernel_rfl) (by kernel_rfl) (by kernel_rfl) (fun _ _ _ h => h) (Or.inl ⟨by kernel_rfl, ?_⟩) hH ?_
        rotate_left 1
        · intro wq hq; have q0 : wq.cell? ⟨w.heap.size, 0, none⟩ = some (.int .i64 port) := blk_cell hq 0; have q1 : wq.cell? ⟨w.heap.size, 1, none⟩ = some (.int .i64 id) := blk_cell hq 1; clear hq; first | (go_simp; done) | (go_simp; with_reducible rfl)
        simp only [Act.put, List.setIfInBounds_toArray, List.set_cons_zero, List.set_cons_succ]
        refine wpAnyH_ready (rs := [7]) (by kernel_rfl) (by simp) (AllReadyH.cons (o := ⟨none, _, _, _, _, _⟩) rfl (fun K hK => ?_) AllReadyH.nil)
        go_simp
        skip
        refine hK.out _ _ (blk_keep (blk_keep HZ0.out (by omega) _ _) (by omega) _ _) (fun hH => ?_)
        clear hK K
        try simp only [Act.put, List.setIfInBounds_toArray, List.set_cons_zero, List.set_cons_succ]
        refine wpAnyH_done (by kernel_rfl) ?_ _
        clear hH
        go_wp2
        have FC : ((((((wd.setCell ⟨w.heap.size + 1 + 1, 0, none⟩ (.int .i64 port)).setCell ⟨w.heap.size + 1 + 1, 1, none⟩ (.int .i64 id)).setCell ⟨w.heap.size + 1, 0, none⟩ (.int .i64 port)).setCell ⟨w.heap.size + 1, 1, none⟩ (.int .i64 id)).setCell ⟨w.heap.size + 1, 2, none⟩ (.slice aa li.length cc)).setCell ⟨w.heap.size + 1, 3, none⟩ (.bool false)).heap[w.heap.size + 1]? = some (.cells #[.int .i64 port, .int .i64 id, .slice aa li.length cc, .bool false] 40 (0, 0)) := (blk_set (blk_set (blk_set (blk_set (blk_keep (blk_keep HZ1.out (by omega) 0 _) (by omega) 1 _) 0 _) 1 _) 2 _) 3 _)
        have FT := Lib.hid (show Turned (fun k => k = w.heap.size + 1 ∨ k = w.heap.size + 1 + 1) w3 ((((((wd.setCell ⟨w.heap.size + 1 + 1, 0, none⟩ (.int .i64 port)).setCell ⟨w.heap.size + 1 + 1, 1, none⟩ (.int .i64 id)).setCell ⟨w.heap.size + 1, 0, none⟩ (.int .i64 port)).setCell ⟨w.heap.size + 1, 1, none⟩ (.int .i64 id)).setCell ⟨w.heap.size + 1, 2, none⟩ (.slice aa li.length cc)).setCell ⟨w.heap.size + 1, 3, none⟩ (.bool false)) from ((((((HZT.out.set (.inl (.inr rfl)) 0 _).set (.inl (.inr rfl)) 1 _).set (.inl (.inl rfl)) 0 _).set (.inl (.inl rfl)) 1 _).set (.inl (.inl rfl)) 2 _).set (.inl (.inl rfl)) 3 _))
        have FB := Lib.hid (show Below w.heap.size w ((((((wd.setCell ⟨w.heap.size + 1 + 1, 0, none⟩ (.int .i64 port)).setCell ⟨w.heap.size + 1 + 1, 1, none⟩ (.int .i64 id)).setCell ⟨w.heap.size + 1, 0, none⟩ (.int .i64 port)).setCell ⟨w.heap.size + 1, 1, none⟩ (.int .i64 id)).setCell ⟨w.heap.size + 1, 2, none⟩ (.slice aa li.length cc)).setCell ⟨w.heap.size + 1, 3, none⟩ (.bool false)) from (below_set (below_set (below_set (below_set (below_set (below_set HZB.out (by omega) 0 _) (by omega) 1 _) (by omega) 0 _) (by omega) 1 _) (by omega) 2 _) (by omega) 3 _))
        generalize ((((((wd.setCell ⟨w.heap.size + 1 + 1, 0, none⟩ (.int .i64 port)).setCell ⟨w.heap.size + 1 + 1, 1, none⟩ (.int .i64 id)).setCell ⟨w.heap.size + 1, 0, none⟩ (.int .i64 port)).setCell ⟨w.heap.size + 1, 1, none⟩ (.int .i64 id)).setCell ⟨w.heap.size + 1, 2, none⟩ (.slice aa li.length cc)).setCell ⟨w.heap.size + 1, 3, none⟩ (.bool false)) = wf at *
        refine bodyPost_ret (res_c _ _ _ (w.heap.size + 1) #[.int .i64 port, .int .i64 id, .slice aa li.length cc, .bool false] rfl (lv_rep _ _ _ (rowIs_of FC) (rowOf_of FC)) rfl) rfl ?_
        refine (HF.out _ _ _ _).2 ⟨aa, cc, rfl, ?_, FB.out⟩
        exact own_turned HO.out FT.out (fun g hg => by
          obtain ⟨C, hC⟩ := own_cells HO.out hg
          rintro (rfl | rfl)
          · exact type_ne hC HA1.out (by decide) rfl
          · exact type_ne hC HA2.out (by decide) rfl)
    · have hne : (er != 0) = true := by simpa using he
      go_upto_region 13 with fail
      try any_goals (exfalso; omega)
      all_goals
        have Z0 : ((((w3.setCell ⟨w.heap.size + 1 + 1, 0, none⟩ (.int .i64 0)).setCell ⟨w.heap.size + 1 + 1, 1, none⟩ (.int .i64 0)).setCell ⟨w.heap.size + 1 + 1, 2, none⟩ (.slice aa li.length cc)).setCell ⟨w.heap.size + 1 + 1, 3, none⟩ (.bool true)).heap[w.heap.size]? = some (.cells #[.int .i64 port, .int .i64 id, .int .i64 1, .int .u64 addr, .int .i64 beats, .slice da dl dc, .slice sa sl sc, .int .i64 0] 43 (0, 0)) := (blk_keep (blk_keep (blk_keep (blk_keep HA0.out (by omega) 0 _) (by omega) 1 _) (by omega) 2 _) (by omega) 3 _)
        have Z1 : ((((w3.setCell ⟨w.heap.size + 1 + 1, 0, none⟩ (.int .i64 0)).setCell ⟨w.heap.size + 1 + 1, 1, none⟩ (.int .i64 0)).setCell ⟨w.heap.size + 1 + 1, 2, none⟩ (.slice aa li.length cc)).setCell ⟨w.heap.size + 1 + 1, 3, none⟩ (.bool true)).heap[w.heap.size + 1]? = some (.cells #[.int .i64 0, .int .i64 0, .slice none 0 0, .bool false] 40 (0, 0)) := (blk_keep (blk_keep (blk_keep (blk_keep HA1.out (by omega) 0 _) (by omega) 1 _) (by omega) 2 _) (by omega) 3 _)
        have Z2 : ((((w3.setCell ⟨w.heap.size + 1 + 1, 0, none⟩ (.int .i64 0)).setCell ⟨w.heap.size + 1 + 1, 1, none⟩ (.int .i64 0)).setCell ⟨w.heap.size + 1 + 1, 2, none⟩ (.slice aa li.length cc)).setCell ⟨w.heap.size + 1 + 1, 3, none⟩ (.bool true)).heap[w.heap.size + 1 + 1]? = some (.cells #[.int .i64 0, .int .i64 0, .slice aa li.length cc, .bool true] 40 (0, 0)) := (blk_set (blk_set (blk_set (blk_set HA2.out 0 _) 1 _) 2 _) 3 _)
        have ZB : Below w.heap.size w ((((w3.setCell ⟨w.heap.size + 1 + 1, 0, none⟩ (.int .i64 0)).setCell ⟨w.heap.size + 1 + 1, 1, none⟩ (.int .i64 0)).setCell ⟨w.heap.size + 1 + 1, 2, none⟩ (.slice aa li.length cc)).setCell ⟨w.heap.size + 1 + 1, 3, none⟩ (.bool true)) := (below_set (below_set (below_set (below_set HBW.out (by omega) 0 _) (by omega) 1 _) (by omega) 2 _) (by omega) 3 _)
        generalize ((((w3.setCell ⟨w.heap.size + 1 + 1, 0, none⟩ (.int .i64 0)).setCell ⟨w.heap.size + 1 + 1, 1, none⟩ (.int .i64 0)).setCell ⟨w.heap.size + 1 + 1, 2, none⟩ (.slice aa li.length cc)).setCell ⟨w.heap.size + 1 + 1, 3, none⟩ (.bool true)) = w4 at *
        clear HA0 HA1 HA2 HBW HO
        have e0 : w4.cell? ⟨w.heap.size + 1 + 1, 0, none⟩ = some (.int .i64 0) := blk_cell Z2 0
        have e1 : w4.cell? ⟨w.heap.size + 1 + 1, 1, none⟩ = some (.int .i64 0) := blk_cell Z2 1
        have e2 : w4.cell? ⟨w.heap.size + 1 + 1, 2, none⟩ = some (.slice aa li.length cc) := blk_cell Z2 2
        have e3 : w4.cell? ⟨w.heap.size + 1 + 1, 3, none⟩ = some (.bool true) := blk_cell Z2 3
        have i0 : w4.frozen? ⟨w.heap.size + 1 + 1, 0, none⟩ = false := blk_frozen Z2 0
        have i1 : w4.frozen? ⟨w.heap.size + 1 + 1, 1, none⟩ = false := blk_frozen Z2 1
        have i2 : w4.frozen? ⟨w.heap.size + 1 + 1, 2, none⟩ = false := blk_frozen Z2 2
        have i3 : w4.frozen? ⟨w.heap.size + 1 + 1, 3, none⟩ = false := blk_frozen Z2 3
        have hmk : ∀ wq, (Instr.makeSlice 37 (.int .i64 (8 * (beats : Int))) (.int .i64 (8 * (beats : Int)))).run Try.prog wq = .ok (.slice (some ⟨wq.heap.size, 0, none⟩) (8 * beats) (8 * beats)) (wq.alloc (.cells (madeCells #[.int .u8 0] (8 * beats)) 5)) := fun wq => by
          have := run_make_row' (P := Try.prog) 37 5 (.int .u8 0) 1 Try.underlying37 A_info5 rfl .i64 .i64 (8 * beats) (by omega) (by omega) wq
          rw [show ((8 * beats : Nat) : Int) = 8 * (beats : Int) by omega] at this
          exact this
        have HAB : Hid (Below w4.heap.size w4 (w4.alloc (.cells (madeCells #[.int .u8 0] (8 * beats)) 5))) := (Below.refl _ _).alloc (Nat.le_refl _) _
        have HA0 := Lib.hid (blk_below HAB.out (blk_lt Z0) Z0)
        have HA1 := Lib.hid (blk_below HAB.out (blk_lt Z1) Z1)
        have HA2 := Lib.hid (blk_below HAB.out (blk_lt Z2) Z2)
        have HBW := Lib.hid (below_then ZB HAB.out ZB.size)
        have HO : Hid ((w4.alloc (.cells (madeCells #[.int .u8 0] (8 * beats)) 5)).ownsRow w.heap.size 5 1 (.slice (some ⟨w4.heap.size, 0, none⟩) (8 * beats) (8 * beats)) (8 * beats) ((List.replicate (8 * beats) (0 : Int)).map (Value.int .u8))) := made_row w4 _ (by omega) ZB.size
        have y2 : (w4.alloc (.cells (madeCells #[.int .u8 0] (8 * beats)) 5)).cell? ⟨w.heap.size + 1 + 1, 2, none⟩ = some (.slice aa li.length cc) := blk_cell HA2.out 2
        have z2 : (w4.alloc (.cells (madeCells #[.int .u8 0] (8 * beats)) 5)).frozen? ⟨w.heap.size + 1 + 1, 2, none⟩ = false := blk_frozen HA2.out 2
        clear Z0 Z1 Z2 ZB HAB
        go_upto_region 14 with fail
        generalize w4.alloc (.cells (madeCells #[.int .u8 0] (8 * beats)) 5) = w5 at *
        have Z0 : (w5.setCell ⟨w.heap.size + 1 + 1, 2, none⟩ (.slice (some ⟨w4.heap.size, 0, none⟩) (8 * beats) (8 * beats))).heap[w.heap.size]? = some (.cells #[.int .i64 port, .int .i64 id, .int .i64 1, .int .u64 addr, .int .i64 beats, .slice da dl dc, .slice sa sl sc, .int .i64 0] 43 (0, 0)) := (blk_keep HA0.out (by omega) 2 _)
        have Z1 : (w5.setCell ⟨w.heap.size + 1 + 1, 2, none⟩ (.slice (some ⟨w4.heap.size, 0, none⟩) (8 * beats) (8 * beats))).heap[w.heap.size + 1]? = some (.cells #[.int .i64 0, .int .i64 0, .slice none 0 0, .bool false] 40 (0, 0)) := (blk_keep HA1.out (by omega) 2 _)
        have Z2 : (w5.setCell ⟨w.heap.size + 1 + 1, 2, none⟩ (.slice (some ⟨w4.heap.size, 0, none⟩) (8 * beats) (8 * beats))).heap[w.heap.size + 1 + 1]? = some (.cells #[.int .i64 0, .int .i64 0, .slice (some ⟨w4.heap.size, 0, none⟩) (8 * beats) (8 * beats), .bool true] 40 (0, 0)) := (blk_set HA2.out 2 _)
        have ZB : Below w.heap.size w (w5.setCell ⟨w.heap.size + 1 + 1, 2, none⟩ (.slice (some ⟨w4.heap.size, 0, none⟩) (8 * beats) (8 * beats))) := (below_set HBW.out (by omega) 2 _)
        have ZT : Turned (fun k => k = w.heap.size + 1 ∨ k = w.heap.size + 1 + 1) w5 (w5.setCell ⟨w.heap.size + 1 + 1, 2, none⟩ (.slice (some ⟨w4.heap.size, 0, none⟩) (8 * beats) (8 * beats))) := ((Turned.refl _ _).set (.inl (.inr rfl)) 2 _)
        generalize (w5.setCell ⟨w.heap.size + 1 + 1, 2, none⟩ (.slice (some ⟨w4.heap.size, 0, none⟩) (8 * beats) (8 * beats))) = wz at *
        have HZ0 : Hid (wz.drew.heap[w.heap.size]? = some (.cells #[.int .i64 port, .int .i64 id, .int .i64 1, .int .u64 addr, .int .i64 beats, .slice da dl dc, .slice sa sl sc, .int .i64 0] 43 (0, 0))) := Z0
        have HZ1 : Hid (wz.drew.heap[w.heap.size + 1]? = some (.cells #[.int .i64 0, .int .i64 0, .slice none 0 0, .bool false] 40 (0, 0))) := Z1
        have HZ2 : Hid (wz.drew.heap[w.heap.size + 1 + 1]? = some (.cells #[.int .i64 0, .int .i64 0, .slice (some ⟨w4.heap.size, 0, none⟩) (8 * beats) (8 * beats), .bool true] 40 (0, 0))) := Z2
        have HZB : Hid (Below w.heap.size w wz.drew) := ZB.drew
        have HZT : Hid (Turned (fun k => k = w.heap.size + 1 ∨ k = w.heap.size + 1 + 1) w5 wz.drew) := ZT.drew
        refine wp_region_held_drew (S := fun wq => wq.heap[w.heap.size]? = some (.cells #[.int .i64 port, .int .i64 id, .int .i64 1, .int .u64 addr, .int .i64 beats, .slice da dl dc, .slice sa sl sc, .int .i64 0] 43 (0, 0))) (by kernel_rfl) Z0 (fun hH => ?_)
        generalize wz.drew = wd at *
        clear Z0 Z1 Z2 ZB ZT
        have b0 : wd.cell? ⟨w.heap.size + 1 + 1, 0, none⟩ = some (.int .i64 0) := blk_cell HZ2.out 0
        have b1 : wd.cell? ⟨w.heap.size + 1 + 1, 1, none⟩ = some (.int .i64 0) := blk_cell HZ2.out 1
        have b2 : wd.cell? ⟨w.heap.size + 1 + 1, 2, none⟩ = some (.slice (some ⟨w4.heap.size, 0, none⟩) (8 * beats) (8 * beats)) := blk_cell HZ2.out 2
        have b3 : wd.cell? ⟨w.heap.size + 1 + 1, 3, none⟩ = some (.bool true) := blk_cell HZ2.out 3
        have a0 : wd.cell? ⟨w.heap.size + 1, 0, none⟩ = some (.int .i64 0) := blk_cell HZ1.out 0
        have a1 : wd.cell? ⟨w.heap.size + 1, 1, none⟩ = some (.int .i64 0) := blk_cell HZ1.out 1
        have a2 : wd.cell? ⟨w.heap.size + 1, 2, none⟩ = some (.slice none 0 0) := blk_cell HZ1.out 2
        have a3 : wd.cell? ⟨w.heap.size + 1, 3, none⟩ = some (.bool false) := blk_cell HZ1.out 3
        have f0 : wd.frozen? ⟨w.heap.size + 1 + 1, 0, none⟩ = false := blk_frozen HZ2.out 0
        have f1 : wd.frozen? ⟨w.heap.size + 1 + 1, 1, none⟩ = false := blk_frozen HZ2.out 1
        have g0 : wd.frozen? ⟨w.heap.size + 1, 0, none⟩ = false := blk_frozen HZ1.out 0
        have g1 : wd.frozen? ⟨w.heap.size + 1, 1, none⟩ = false := blk_frozen HZ1.out 1
        have g2 : wd.frozen? ⟨w.heap.size + 1, 2, none⟩ = false := blk_frozen HZ1.out 2
        have g3 : wd.frozen? ⟨w.heap.size + 1, 3, none⟩ = false := blk_frozen HZ1.out 3
        refine wpAnyH_take (i := 0) (oi := ⟨some 68, _, _, _, _, _⟩) (v := ?_) rfl (by kernel_rfl) (by kernel_rfl) (by kernel_rfl) (fun _ _ _ h => h) (Or.inl ⟨by kernel_rfl, ?_⟩) hH ?_
        rotate_left 1
        · intro wq hq; have q0 : wq.cell? ⟨w.heap.size, 0, none⟩ = some (.int .i64 port) := blk_cell hq 0; have q1 : wq.cell? ⟨w.heap.size, 1, none⟩ = some (.int .i64 id) := blk_cell hq 1; clear hq; first | (go_simp; done) | (go_simp; with_reducible rfl)
        simp only [Act.put, List.setIfInBounds_toArray, List.set_cons_zero, List.set_cons_succ]
        refine wpAnyH_take (i := 1) (oi := ⟨some 69, _, _, _, _, _⟩) (v := ?_) rfl (by kernel_rfl) (by kernel_rfl) (by kernel_rfl) (fun _ _ _ h => h) (Or.inl ⟨by kernel_rfl, ?_⟩) hH ?_
        rotate_left 1
        · intro wq hq; have q0 : wq.cell? ⟨w.heap.size, 0, none⟩ = some (.int .i64 port) := blk_cell hq 0; have q1 : wq.cell? ⟨w.heap.size, 1, none⟩ = some (.int .i64 id) := blk_cell hq 1; clear hq; first | (go_simp; done) | (go_simp; with_reducible rfl)
        simp only [Act.put, List.setIfInBounds_toArray, List.set_cons_zero, List.set_cons_succ]
        refine wpAnyH_take (i := 2) (oi := ⟨some 70, _, _, _, _, _⟩) (v := ?_) rfl (by kernel_rfl) (by kernel_rfl) (by kernel_rfl) (fun _ _ _ h => h) (Or.inl ⟨by kernel_rfl, ?_⟩) hH ?_
        rotate_left 1
        · intro wq hq; have q0 : wq.cell? ⟨w.heap.size, 0, none⟩ = some (.int .i64 port) := blk_cell hq 0; have q1 : wq.cell? ⟨w.heap.size, 1, none⟩ = some (.int .i64 id) := blk_cell hq 1; clear hq; first | (go_simp; done) | (go_simp; with_reducible rfl)
        simp only [Act.put, List.setIfInBounds_toArray, List.set_cons_zero, List.set_cons_succ]
        refine wpAnyH_take (i := 3) (oi := ⟨some 71, _, _, _, _, _⟩) (v := ?_) rfl (by kernel_rfl) (by kernel_rfl) (by kernel_rfl) (fun _ _ _ h => h) (Or.inl ⟨by kernel_rfl, ?_⟩) hH ?_
        rotate_left 1
        · intro wq hq; have q0 : wq.cell? ⟨w.heap.size, 0, none⟩ = some (.int .i64 port) := blk_cell hq 0; have q1 : wq.cell? ⟨w.heap.size, 1, none⟩ = some (.int .i64 id) := blk_cell hq 1; clear hq; first | (go_simp; done) | (go_simp; with_reducible rfl)
        simp only [Act.put, List.setIfInBounds_toArray, List.set_cons_zero, List.set_cons_succ]
        refine wpAnyH_take (i := 4) (oi := ⟨some 72, _, _, _, _, _⟩) (v := ?_) rfl (by kernel_rfl) (by kernel_rfl) (by kernel_rfl) (fun _ _ _ h => h) (Or.inl ⟨by kernel_rfl, ?_⟩) hH ?_
        rotate_left 1
        · intro wq hq; have q0 : wq.cell? ⟨w.heap.size, 0, none⟩ = some (.int .i64 port) := blk_cell hq 0; have q1 : wq.cell? ⟨w.heap.size, 1, none⟩ = some (.int .i64 id) := blk_cell hq 1; clear hq; first | (go_simp; done) | (go_simp; with_reducible rfl)
        simp only [Act.put, List.setIfInBounds_toArray, List.set_cons_zero, List.set_cons_succ]
        refine wpAnyH_ready (rs := [5]) (by kernel_rfl) (by simp) (AllReadyH.cons (o := ⟨none, _, _, _, _, _⟩) rfl (fun K hK => ?_) AllReadyH.nil)
        go_simp
        skip
        refine hK.out _ _ (blk_keep HZ0.out (by omega) _ _) (fun hH => ?_)
        clear hK K
        try simp only [Act.put, List.setIfInBounds_toArray, List.set_cons_zero, List.set_cons_succ]
        refine wpAnyH_take (i := 6) (oi := ⟨some 73, _, _, _, _, _⟩) (v := ?_) rfl (by kernel_rfl) (by kernel_rfl) (by kernel_rfl) (fun _ _ _ h => h) (Or.inl ⟨by kernel_rfl, ?_⟩) hH ?_
        rotate_left 1
        · intro wq hq; have q0 : wq.cell? ⟨w.heap.size, 0, none⟩ = some (.int .i64 port) := blk_cell hq 0; have q1 : wq.cell? ⟨w.heap.size, 1, none⟩ = some (.int .i64 id) := blk_cell hq 1; clear hq; first | (go_simp; done) | (go_simp; with_reducible rfl)
        simp only [Act.put, List.setIfInBounds_toArray, List.set_cons_zero, List.set_cons_succ]
        refine wpAnyH_ready (rs := [7]) (by kernel_rfl) (by simp) (AllReadyH.cons (o := ⟨none, _, _, _, _, _⟩) rfl (fun K hK => ?_) AllReadyH.nil)
        go_simp
        skip
        refine hK.out _ _ (blk_keep (blk_keep HZ0.out (by omega) _ _) (by omega) _ _) (fun hH => ?_)
        clear hK K
        try simp only [Act.put, List.setIfInBounds_toArray, List.set_cons_zero, List.set_cons_succ]
        refine wpAnyH_done (by kernel_rfl) ?_ _
        clear hH
        go_wp2
        have FC : ((((((wd.setCell ⟨w.heap.size + 1 + 1, 0, none⟩ (.int .i64 port)).setCell ⟨w.heap.size + 1 + 1, 1, none⟩ (.int .i64 id)).setCell ⟨w.heap.size + 1, 0, none⟩ (.int .i64 port)).setCell ⟨w.heap.size + 1, 1, none⟩ (.int .i64 id)).setCell ⟨w.heap.size + 1, 2, none⟩ (.slice (some ⟨w4.heap.size, 0, none⟩) (8 * beats) (8 * beats))).setCell ⟨w.heap.size + 1, 3, none⟩ (.bool true)).heap[w.heap.size + 1]? = some (.cells #[.int .i64 port, .int .i64 id, .slice (some ⟨w4.heap.size, 0, none⟩) (8 * beats) (8 * beats), .bool true] 40 (0, 0)) := (blk_set (blk_set (blk_set (blk_set (blk_keep (blk_keep HZ1.out (by omega) 0 _) (by omega) 1 _) 0 _) 1 _) 2 _) 3 _)
        have FT := Lib.hid (show Turned (fun k => k = w.heap.size + 1 ∨ k = w.heap.size + 1 + 1) w5 ((((((wd.setCell ⟨w.heap.size + 1 + 1, 0, none⟩ (.int .i64 port)).setCell ⟨w.heap.size + 1 + 1, 1, none⟩ (.int .i64 id)).setCell ⟨w.heap.size + 1, 0, none⟩ (.int .i64 port)).setCell ⟨w.heap.size + 1, 1, none⟩ (.int .i64 id)).setCell ⟨w.heap.size + 1, 2, none⟩ (.slice (some ⟨w4.heap.size, 0, none⟩) (8 * beats) (8 * beats))).setCell ⟨w.heap.size + 1, 3, none⟩ (.bool true)) from ((((((HZT.out.set (.inl (.inr rfl)) 0 _).set (.inl (.inr rfl)) 1 _).set (.inl (.inl rfl)) 0 _).set (.inl (.inl rfl)) 1 _).set (.inl (.inl rfl)) 2 _).set (.inl (.inl rfl)) 3 _))
        have FB := Lib.hid (show Below w.heap.size w ((((((wd.setCell ⟨w.heap.size + 1 + 1, 0, none⟩ (.int .i64 port)).setCell ⟨w.heap.size + 1 + 1, 1, none⟩ (.int .i64 id)).setCell ⟨w.heap.size + 1, 0, none⟩ (.int .i64 port)).setCell ⟨w.heap.size + 1, 1, none⟩ (.int .i64 id)).setCell ⟨w.heap.size + 1, 2, none⟩ (.slice (some ⟨w4.heap.size, 0, none⟩) (8 * beats) (8 * beats))).setCell ⟨w.heap.size + 1, 3, none⟩ (.bool true)) from (below_set (below_set (below_set (below_set (below_set (below_set HZB.out (by omega) 0 _) (by omega) 1 _) (by omega) 0 _) (by omega) 1 _) (by omega) 2 _) (by omega) 3 _))
        generalize ((((((wd.setCell ⟨w.heap.size + 1 + 1, 0, none⟩ (.int .i64 port)).setCell ⟨w.heap.size + 1 + 1, 1, none⟩ (.int .i64 id)).setCell ⟨w.heap.size + 1, 0, none⟩ (.int .i64 port)).setCell ⟨w.heap.size + 1, 1, none⟩ (.int .i64 id)).setCell ⟨w.heap.size + 1, 2, none⟩ (.slice (some ⟨w4.heap.size, 0, none⟩) (8 * beats) (8 * beats))).setCell ⟨w.heap.size + 1, 3, none⟩ (.bool true)) = wf at *
        refine bodyPost_ret (res_c _ _ _ (w.heap.size + 1) #[.int .i64 port, .int .i64 id, .slice (some ⟨w4.heap.size, 0, none⟩) (8 * beats) (8 * beats), .bool true] rfl (lv_rep _ _ _ (rowIs_of FC) (rowOf_of FC)) rfl) rfl ?_
        refine (HF.out _ _ _ _).2 ⟨some ⟨w4.heap.size, 0, none⟩, 8 * beats, by rw [List.length_replicate], ?_, FB.out⟩
        rw [List.length_replicate]
        exact own_turned HO.out FT.out (fun g hg => by
          obtain ⟨C, hC⟩ := own_cells HO.out hg
          rintro (rfl | rfl)
          · exact type_ne hC HA1.out (by decide) rfl
          · exact type_ne hC HA2.out (by decide) rfl)
end
end Go.Proofs.Ytefcdbpmpnmkjaa
end
section
set_option linter.unusedVariables false
set_option linter.unusedSimpArgs false
namespace Go.Proofs.Ytefcdbpmpnmkjaa
open Go.RowKit
set_option maxRecDepth 100000
section
attribute [local go_sem] row_alloc row_drew row_drewN is_alloc is_drew is_drewN row_setCell is_setCell setRow_alloc_new objRow_cells objIs_cells row_setRow_same row_setRow_other is_setRow_same is_setRow_other
theorem SocTo.aside {w wb w3 wf : World} {β : SocB} {σ : SocS} {S : Nat → Prop} {g1 g2 : Nat} (k : SocTo wb w3 β σ S) (hS : ∀ g, S g → g < w.heap.size) (hbw : Below w.heap.size w wb) (hr : β.r < w.heap.size) (ht : Turned (fun k => k = g1 ∨ k = g2) w3 wf) (h1 : w.heap.size ≤ g1) (h2 : w.heap.size ≤ g2) (k1 : g1 < wb.heap.size) (k2 : g2 < wb.heap.size) : SocTo w wf β σ S := by
  obtain ⟨S', ⟨lg, sn, SR, h, rfl⟩, q2, q3⟩ := k
  refine ⟨_, ⟨lg, sn, SR, h.turned ht (by rintro (e | e) <;> omega) (fun g hg => ?_), rfl⟩, ((Turned.of_below hbw S).trans q2 (fun g hg => .inl hg)).trans ht (fun g hg => .inr (by rcases hg with rfl | rfl <;> assumption)), fun g hg => (q3 g hg).imp id (fun e => Nat.le_trans hbw.size e)⟩
  rintro (rfl | rfl)
  · rcases q3 _ hg with e | e
    · have := hS _ e; omega
    · omega
  · rcases q3 _ hg with e | e
    · have := hS _ e; omega
    · omega
set_option maxHeartbeats 4000000 in
theorem soc_serve_w {w : World} {β : SocB} {σ : SocS} {lg sn : Value} {SR : Nat → Prop} (h : SocIs w β σ lg sn SR) (A : AskS) (hx : A.addr < 2 ^ 64) (hkind : A.kind = 2) (hsize : A.size = 0) (hbeats : A.beats ≤ 8)
    (V : Nat → Int) (hdl : A.dl ≤ 200) (hsl : (A.sl : Int) ≤ 9223372036854775807) (hda : IsB w A.da A.dl (listOf V A.dl)) (hap : Apart SR A.da) (z : Nat → Bool) (hz : IsRow w A.sa A.sl (fun i => .bool (z i))) (hap2 : Apart SR A.sa) :
    Calls Try.prog 13 #[.pointer (some ⟨β.s, 0, none⟩), .agg A.cells] w (fun e w' => e = .returned (.agg #[.int .i64 A.port, .int .i64 A.id, .slice none 0 0, .bool (someE σ.n A.addr A.dl != 0)]) ∧ SocTo w w' β { σ with ct := someC σ.n σ.ct A.addr V (stAt A.sl z) A.dl } (SocOwn β lg sn SR)) := by
  have HSO : Hid (∀ W, Below w.heap.size w W → Calls Try.prog 43 #[.pointer (some ⟨β.r, 0, none⟩), .int .u64 A.addr, .slice A.da A.dl A.dc, .slice A.sa A.sl A.sc] W (fun e w' => e = .returned (.int .i64 (someE σ.n A.addr A.dl)) ∧ RamTo W w' β.r σ.n (someC σ.n σ.ct A.addr V (stAt A.sl z) A.dl) SR)) := fun W hb =>
    ram_some_any (h.below hb).r A.addr (by omega) (by omega) A.da A.sa A.dl A.dc A.sl A.sc (by omega) V (isB_turned hda (Turned.of_below hb SR) hap) hap z (isRow_turned hz (Turned.of_below hb SR) hap2) hap2 hsl
  have H := Lib.hid h
  have HSR : Hid (∀ g, SR g → g < w.heap.size) := fun g hg => RamAt.lt h.r hg
  have HOW : Hid (∀ g, SocOwn β lg sn SR g → g < w.heap.size) := fun g hg => h.lt hg
  have HRR : Hid (β.r < w.heap.size) := by obtain ⟨C, hC⟩ := ram_at h.r; exact blk_lt hC
  have e1 : max (A.beats : Int) 0 = A.beats := by omega
  have e2 : min (A.beats : Int) 8 = A.beats := by omega
  have e3 : (A.beats : Int) ≤ 8 := by omega
  clear h hx hbeats hda hap hz hap2 hdl hsl
  obtain ⟨port, id, kind, addr, beats, da, dl, dc, sa, sl, sc, size⟩ := A
  obtain rfl : kind = 2 := hkind
  obtain rfl : size = 0 := hsize
  simp only [AskS.cells] at *
  generalize someE σ.n addr dl = er at *
  generalize someC σ.n σ.ct addr V (stAt sl z) dl = ct' at *
  generalize hq : (er != 0) = q
  have HB0 : Hid (Below w.heap.size w (((w.alloc (Obj.cells #[.int .i64 port, .int .i64 id, .int .i64 2, .int .u64 addr, .int .i64 beats, .slice da dl dc, .slice sa sl sc, .int .i64 0] 43)).alloc (Obj.cells #[.int .i64 0, .int .i64 0, .slice none 0 0, .bool false] 40)).alloc (Obj.cells #[.int .i64 0, .int .i64 0, .slice none 0 0, .bool true] 40))) := base3 _ _ _ _
  have A0 : (((w.alloc (Obj.cells #[.int .i64 port, .int .i64 id, .int .i64 2, .int .u64 addr, .int .i64 beats, .slice da dl dc, .slice sa sl sc, .int .i64 0] 43)).alloc (Obj.cells #[.int .i64 0, .int .i64 0, .slice none 0 0, .bool false] 40)).alloc (Obj.cells #[.int .i64 0, .int .i64 0, .slice none 0 0, .bool true] 40)).heap[w.heap.size]? = some (.cells #[.int .i64 port, .int .i64 id, .int .i64 2, .int .u64 addr, .int .i64 beats, .slice da dl dc, .slice sa sl sc, .int .i64 0] 43 (0, 0)) := (blk_below (((Below.refl _ _).alloc (Nat.le_refl _) _).alloc (by simp) _) (by simp) (blk_alloc _ _))
  have A1 : (((w.alloc (Obj.cells #[.int .i64 port, .int .i64 id, .int .i64 2, .int .u64 addr, .int .i64 beats, .slice da dl dc, .slice sa sl sc, .int .i64 0] 43)).alloc (Obj.cells #[.int .i64 0, .int .i64 0, .slice none 0 0, .bool false] 40)).alloc (Obj.cells #[.int .i64 0, .int .i64 0, .slice none 0 0, .bool true] 40)).heap[w.heap.size + 1]? = some (.cells #[.int .i64 0, .int .i64 0, .slice none 0 0, .bool false] 40 (0, 0)) := third_is _ _ _ _ _
  have A2 : (((w.alloc (Obj.cells #[.int .i64 port, .int .i64 id, .int .i64 2, .int .u64 addr, .int .i64 beats, .slice da dl dc, .slice sa sl sc, .int .i64 0] 43)).alloc (Obj.cells #[.int .i64 0, .int .i64 0, .slice none 0 0, .bool false] 40)).alloc (Obj.cells #[.int .i64 0, .int .i64 0, .slice none 0 0, .bool true] 40)).heap[w.heap.size + 1 + 1]? = some (.cells #[.int .i64 0, .int .i64 0, .slice none 0 0, .bool true] 40 (0, 0)) := by have := blk_alloc ((w.alloc (Obj.cells #[.int .i64 port, .int .i64 id, .int .i64 2, .int .u64 addr, .int .i64 beats, .slice da dl dc, .slice sa sl sc, .int .i64 0] 43)).alloc (Obj.cells #[.int .i64 0, .int .i64 0, .slice none 0 0, .bool false] 40)) (Obj.cells #[.int .i64 0, .int .i64 0, .slice none 0 0, .bool true] 40); simpa using this
  have HA0 := Lib.hid A0
  have HA1 := Lib.hid A1
  have HA2 := Lib.hid A2
  have HSZ : Hid ((((w.alloc (Obj.cells #[.int .i64 port, .int .i64 id, .int .i64 2, .int .u64 addr, .int .i64 beats, .slice da dl dc, .slice sa sl sc, .int .i64 0] 43)).alloc (Obj.cells #[.int .i64 0, .int .i64 0, .slice none 0 0, .bool false] 40)).alloc (Obj.cells #[.int .i64 0, .int .i64 0, .slice none 0 0, .bool true] 40)).heap.size = w.heap.size + 3) := by show _ = _; simp
  clear A0 A1 A2
  go_enter Try.func13, Try.ntmps13
  go_wp2_with fail
  all_goals
    generalize (((w.alloc (Obj.cells #[.int .i64 port, .int .i64 id, .int .i64 2, .int .u64 addr, .int .i64 beats, .slice da dl dc, .slice sa sl sc, .int .i64 0] 43)).alloc (Obj.cells #[.int .i64 0, .int .i64 0, .slice none 0 0, .bool false] 40)).alloc (Obj.cells #[.int .i64 0, .int .i64 0, .slice none 0 0, .bool true] 40)) = wb at *
    refine wp_region_held_drew (S := fun wq => wq.heap[β.s]? = some (.cells (socCells β σ lg) 75 (0, 0)) ∧ wq.heap[w.heap.size]? = some (.cells #[.int .i64 port, .int .i64 id, .int .i64 2, .int .u64 addr, .int .i64 beats, .slice da dl dc, .slice sa sl sc, .int .i64 0] 43 (0, 0))) (by kernel_rfl) ⟨(H.out.below HB0.out).at_, HA0.out⟩ (fun hH => ?_)
    refine wpAnyH_take (i := 0) (oi := ⟨some 30, _, _, _, _, _⟩) (v := ?_) rfl (by kernel_rfl) (by kernel_rfl) (by kernel_rfl) (fun _ _ _ h => h) (Or.inl ⟨by kernel_rfl, ?_⟩) hH ?_
    rotate_left 1
    · intro wq hq; have r3 : wq.cell? ⟨β.s, 3, none⟩ = some (.pointer (some ⟨β.r, 0, none⟩)) := blk_cell hq.1 3; have q3 : wq.cell? ⟨w.heap.size, 3, none⟩ = some (.int .u64 addr) := blk_cell hq.2 3; have q5 : wq.cell? ⟨w.heap.size, 5, none⟩ = some (.slice da dl dc) := blk_cell hq.2 5; have q6 : wq.cell? ⟨w.heap.size, 6, none⟩ = some (.slice sa sl sc) := blk_cell hq.2 6; clear hq; first | (go_simp; done) | (go_simp; with_reducible rfl)
    simp only [Act.put, List.setIfInBounds_toArray, List.set_cons_zero, List.set_cons_succ]
    refine wpAnyH_take (i := 1) (oi := ⟨some 31, _, _, _, _, _⟩) (v := ?_) rfl (by kernel_rfl) (by kernel_rfl) (by kernel_rfl) (fun _ _ _ h => h) (Or.inl ⟨by kernel_rfl, ?_⟩) hH ?_
    rotate_left 1
    · intro wq hq; have r3 : wq.cell? ⟨β.s, 3, none⟩ = some (.pointer (some ⟨β.r, 0, none⟩)) := blk_cell hq.1 3; have q3 : wq.cell? ⟨w.heap.size, 3, none⟩ = some (.int .u64 addr) := blk_cell hq.2 3; have q5 : wq.cell? ⟨w.heap.size, 5, none⟩ = some (.slice da dl dc) := blk_cell hq.2 5; have q6 : wq.cell? ⟨w.heap.size, 6, none⟩ = some (.slice sa sl sc) := blk_cell hq.2 6; clear hq; first | (go_simp; done) | (go_simp; with_reducible rfl)
    simp only [Act.put, List.setIfInBounds_toArray, List.set_cons_zero, List.set_cons_succ]
    refine wpAnyH_take (i := 2) (oi := ⟨some 32, _, _, _, _, _⟩) (v := ?_) rfl (by kernel_rfl) (by kernel_rfl) (by kernel_rfl) (fun _ _ _ h => h) (Or.inl ⟨by kernel_rfl, ?_⟩) hH ?_
    rotate_left 1
    · intro wq hq; have r3 : wq.cell? ⟨β.s, 3, none⟩ = some (.pointer (some ⟨β.r, 0, none⟩)) := blk_cell hq.1 3; have q3 : wq.cell? ⟨w.heap.size, 3, none⟩ = some (.int .u64 addr) := blk_cell hq.2 3; have q5 : wq.cell? ⟨w.heap.size, 5, none⟩ = some (.slice da dl dc) := blk_cell hq.2 5; have q6 : wq.cell? ⟨w.heap.size, 6, none⟩ = some (.slice sa sl sc) := blk_cell hq.2 6; clear hq; first | (go_simp; done) | (go_simp; with_reducible rfl)
    simp only [Act.put, List.setIfInBounds_toArray, List.set_cons_zero, List.set_cons_succ]
    refine wpAnyH_take (i := 3) (oi := ⟨some 33, _, _, _, _, _⟩) (v := ?_) rfl (by kernel_rfl) (by kernel_rfl) (by kernel_rfl) (fun _ _ _ h => h) (Or.inl ⟨by kernel_rfl, ?_⟩) hH ?_
    rotate_left 1
    · intro wq hq; have r3 : wq.cell? ⟨β.s, 3, none⟩ = some (.pointer (some ⟨β.r, 0, none⟩)) := blk_cell hq.1 3; have q3 : wq.cell? ⟨w.heap.size, 3, none⟩ = some (.int .u64 addr) := blk_cell hq.2 3; have q5 : wq.cell? ⟨w.heap.size, 5, none⟩ = some (.slice da dl dc) := blk_cell hq.2 5; have q6 : wq.cell? ⟨w.heap.size, 6, none⟩ = some (.slice sa sl sc) := blk_cell hq.2 6; clear hq; first | (go_simp; done) | (go_simp; with_reducible rfl)
    simp only [Act.put, List.setIfInBounds_toArray, List.set_cons_zero, List.set_cons_succ]
    refine wpAnyH_take (i := 4) (oi := ⟨some 34, _, _, _, _, _⟩) (v := ?_) rfl (by kernel_rfl) (by kernel_rfl) (by kernel_rfl) (fun _ _ _ h => h) (Or.inl ⟨by kernel_rfl, ?_⟩) hH ?_
    rotate_left 1
    · intro wq hq; have r3 : wq.cell? ⟨β.s, 3, none⟩ = some (.pointer (some ⟨β.r, 0, none⟩)) := blk_cell hq.1 3; have q3 : wq.cell? ⟨w.heap.size, 3, none⟩ = some (.int .u64 addr) := blk_cell hq.2 3; have q5 : wq.cell? ⟨w.heap.size, 5, none⟩ = some (.slice da dl dc) := blk_cell hq.2 5; have q6 : wq.cell? ⟨w.heap.size, 6, none⟩ = some (.slice sa sl sc) := blk_cell hq.2 6; clear hq; first | (go_simp; done) | (go_simp; with_reducible rfl)
    simp only [Act.put, List.setIfInBounds_toArray, List.set_cons_zero, List.set_cons_succ]
    refine wpAnyH_take (i := 5) (oi := ⟨some 35, _, _, _, _, _⟩) (v := ?_) rfl (by kernel_rfl) (by kernel_rfl) (by kernel_rfl) (fun _ _ _ h => h) (Or.inl ⟨by kernel_rfl, ?_⟩) hH ?_
    rotate_left 1
    · intro wq hq; have r3 : wq.cell? ⟨β.s, 3, none⟩ = some (.pointer (some ⟨β.r, 0, none⟩)) := blk_cell hq.1 3; have q3 : wq.cell? ⟨w.heap.size, 3, none⟩ = some (.int .u64 addr) := blk_cell hq.2 3; have q5 : wq.cell? ⟨w.heap.size, 5, none⟩ = some (.slice da dl dc) := blk_cell hq.2 5; have q6 : wq.cell? ⟨w.heap.size, 6, none⟩ = some (.slice sa sl sc) := blk_cell hq.2 6; clear hq; first | (go_simp; done) | (go_simp; with_reducible rfl)
    simp only [Act.put, List.setIfInBounds_toArray, List.set_cons_zero, List.set_cons_succ]
    refine wpAnyH_take (i := 6) (oi := ⟨some 36, _, _, _, _, _⟩) (v := ?_) rfl (by kernel_rfl) (by kernel_rfl) (by kernel_rfl) (fun _ _ _ h => h) (Or.inl ⟨by kernel_rfl, ?_⟩) hH ?_
    rotate_left 1
    · intro wq hq; have r3 : wq.cell? ⟨β.s, 3, none⟩ = some (.pointer (some ⟨β.r, 0, none⟩)) := blk_cell hq.1 3; have q3 : wq.cell? ⟨w.heap.size, 3, none⟩ = some (.int .u64 addr) := blk_cell hq.2 3; have q5 : wq.cell? ⟨w.heap.size, 5, none⟩ = some (.slice da dl dc) := blk_cell hq.2 5; have q6 : wq.cell? ⟨w.heap.size, 6, none⟩ = some (.slice sa sl sc) := blk_cell hq.2 6; clear hq; first | (go_simp; done) | (go_simp; with_reducible rfl)
    simp only [Act.put, List.setIfInBounds_toArray, List.set_cons_zero, List.set_cons_succ]
    refine wpAnyH_take (i := 7) (oi := ⟨some 37, _, _, _, _, _⟩) (v := ?_) rfl (by kernel_rfl) (by kernel_rfl) (by kernel_rfl) (fun _ _ _ h => h) (Or.inl ⟨by kernel_rfl, ?_⟩) hH ?_
    rotate_left 1
    · intro wq hq; have r3 : wq.cell? ⟨β.s, 3, none⟩ = some (.pointer (some ⟨β.r, 0, none⟩)) := blk_cell hq.1 3; have q3 : wq.cell? ⟨w.heap.size, 3, none⟩ = some (.int .u64 addr) := blk_cell hq.2 3; have q5 : wq.cell? ⟨w.heap.size, 5, none⟩ = some (.slice da dl dc) := blk_cell hq.2 5; have q6 : wq.cell? ⟨w.heap.size, 6, none⟩ = some (.slice sa sl sc) := blk_cell hq.2 6; clear hq; first | (go_simp; done) | (go_simp; with_reducible rfl)
    simp only [Act.put, List.setIfInBounds_toArray, List.set_cons_zero, List.set_cons_succ]
    refine wpAnyH_take (i := 8) (oi := ⟨some 38, _, _, _, _, _⟩) (v := ?_) rfl (by kernel_rfl) (by kernel_rfl) (by kernel_rfl) (fun _ _ _ h => h) (Or.inl ⟨by kernel_rfl, ?_⟩) hH ?_
    rotate_left 1
    · intro wq hq; have r3 : wq.cell? ⟨β.s, 3, none⟩ = some (.pointer (some ⟨β.r, 0, none⟩)) := blk_cell hq.1 3; have q3 : wq.cell? ⟨w.heap.size, 3, none⟩ = some (.int .u64 addr) := blk_cell hq.2 3; have q5 : wq.cell? ⟨w.heap.size, 5, none⟩ = some (.slice da dl dc) := blk_cell hq.2 5; have q6 : wq.cell? ⟨w.heap.size, 6, none⟩ = some (.slice sa sl sc) := blk_cell hq.2 6; clear hq; first | (go_simp; done) | (go_simp; with_reducible rfl)
    simp only [Act.put, List.setIfInBounds_toArray, List.set_cons_zero, List.set_cons_succ]
    refine wpAnyH_take (i := 9) (oi := ⟨some 39, _, _, _, _, _⟩) (v := ?_) rfl (by kernel_rfl) (by kernel_rfl) (by kernel_rfl) (fun _ _ _ h => h) (Or.inl ⟨by kernel_rfl, ?_⟩) hH ?_
    rotate_left 1
    · intro wq hq; have r3 : wq.cell? ⟨β.s, 3, none⟩ = some (.pointer (some ⟨β.r, 0, none⟩)) := blk_cell hq.1 3; have q3 : wq.cell? ⟨w.heap.size, 3, none⟩ = some (.int .u64 addr) := blk_cell hq.2 3; have q5 : wq.cell? ⟨w.heap.size, 5, none⟩ = some (.slice da dl dc) := blk_cell hq.2 5; have q6 : wq.cell? ⟨w.heap.size, 6, none⟩ = some (.slice sa sl sc) := blk_cell hq.2 6; clear hq; first | (go_simp; done) | (go_simp; with_reducible rfl)
    simp only [Act.put, List.setIfInBounds_toArray, List.set_cons_zero, List.set_cons_succ]
    refine wpAnyH_ready (rs := [10]) (by kernel_rfl) (by simp) (AllReadyH.cons (o := ⟨some 40, _, _, _, _, _⟩) rfl (fun K hK => ?_) AllReadyH.nil)
    go_simp
    refine (HSO.out _ HB0.out.drew).mono ?_
    rintro e w3 ⟨rfl, ht⟩
    have HTO : Hid (SocTo wb w3 β { σ with ct := ct' } (SocOwn β lg sn SR)) := SocTo.after ⟨Turned.of_below (Below.refl _ _).drew _, fun _ => .inl⟩ ((H.out.below HB0.out.drew).ram_to ht)
    have HT3 : Hid (Turned SR wb w3) := by obtain ⟨_, _, t, _⟩ := ht; exact ⟨t.os, t.tape, t.output, t.size, t.block⟩
    clear ht
    go_wp2_with fail
    refine hK.out _ _ ⟨HT3.out.keep (fun e => ram_ne H.out.r H.out.at_ (by decide) e) (H.out.below HB0.out).at_, HT3.out.keep (fun e => by have := HSR.out _ e; omega) HA0.out⟩ (fun hH => ?_)
    clear hK K
    have A0 := HT3.out.keep (g := w.heap.size) (fun e => by have := HSR.out _ e; omega) HA0.out
    have A1 := HT3.out.keep (g := w.heap.size + 1) (fun e => by have := HSR.out _ e; omega) HA1.out
    have A2 := HT3.out.keep (g := w.heap.size + 1 + 1) (fun e => by have := HSR.out _ e; omega) HA2.out
    have HSS := Lib.hid (HT3.out.keep (fun e => ram_ne H.out.r H.out.at_ (by decide) e) (H.out.below HB0.out).at_)
    have HLS := Lib.hid (blk_lt H.out.at_)
    clear HA0 HA1 HA2
    have HA0 := Lib.hid A0
    have HA1 := Lib.hid A1
    have HA2 := Lib.hid A2
    clear A0 A1 A2
    have k2 : w3.cell? ⟨w.heap.size, 2, none⟩ = some (.int .i64 2) := blk_cell HA0.out 2
    have s3 : w3.frozen? ⟨w.heap.size + 1 + 1, 3, none⟩ = false := blk_frozen HA2.out 3
    have c3 : w3.cell? ⟨w.heap.size + 1 + 1, 3, none⟩ = some (.bool true) := blk_cell HA2.out 3
    try simp only [Act.put, List.setIfInBounds_toArray, List.set_cons_zero, List.set_cons_succ]
    refine wpAnyH_take (i := 11) (oi := ⟨some 41, _, _, _, _, _⟩) (v := ?_) rfl (by kernel_rfl) (by kernel_rfl) (by kernel_rfl) (fun _ _ _ h => h) (Or.inl ⟨by kernel_rfl, ?_⟩) hH ?_
    rotate_left 1
    · intro wq hq; have r3 : wq.cell? ⟨β.s, 3, none⟩ = some (.pointer (some ⟨β.r, 0, none⟩)) := blk_cell hq.1 3; have q3 : wq.cell? ⟨w.heap.size, 3, none⟩ = some (.int .u64 addr) := blk_cell hq.2 3; have q5 : wq.cell? ⟨w.heap.size, 5, none⟩ = some (.slice da dl dc) := blk_cell hq.2 5; have q6 : wq.cell? ⟨w.heap.size, 6, none⟩ = some (.slice sa sl sc) := blk_cell hq.2 6; clear hq; first | (go_simp; done) | (go_simp; with_reducible rfl)
    simp only [Act.put, List.setIfInBounds_toArray, List.set_cons_zero, List.set_cons_succ]
    refine wpAnyH_take (i := 12) (oi := ⟨some 42, _, _, _, _, _⟩) (v := ?_) rfl (by kernel_rfl) (by kernel_rfl) (by kernel_rfl) (fun _ _ _ h => h) (Or.inl ⟨by kernel_rfl, ?_⟩) hH ?_
    rotate_left 1
    · intro wq hq; have r3 : wq.cell? ⟨β.s, 3, none⟩ = some (.pointer (some ⟨β.r, 0, none⟩)) := blk_cell hq.1 3; have q3 : wq.cell? ⟨w.heap.size, 3, none⟩ = some (.int .u64 addr) := blk_cell hq.2 3; have q5 : wq.cell? ⟨w.heap.size, 5, none⟩ = some (.slice da dl dc) := blk_cell hq.2 5; have q6 : wq.cell? ⟨w.heap.size, 6, none⟩ = some (.slice sa sl sc) := blk_cell hq.2 6; clear hq; first | (go_simp; done) | (go_simp; with_reducible rfl)
    simp only [Act.put, List.setIfInBounds_toArray, List.set_cons_zero, List.set_cons_succ]
    refine wpAnyH_ready (rs := [13]) (by kernel_rfl) (by simp) (AllReadyH.cons (o := ⟨none, _, _, _, _, _⟩) rfl (fun K hK => ?_) AllReadyH.nil)
    go_simp
    skip
    refine hK.out _ _ ⟨blk_keep HSS.out (by have := HLS.out; omega) _ _, blk_keep HA0.out (by omega) _ _⟩ (fun hH => ?_)
    clear hK K
    try simp only [Act.put, List.setIfInBounds_toArray, List.set_cons_zero, List.set_cons_succ]
    refine wpAnyH_done (by kernel_rfl) ?_ _
    clear hH
    clear hq
    cases q
    case false =>
      go_upto_region 14 with fail
      have Z0 : (w3.setCell ⟨w.heap.size + 1 + 1, 3, none⟩ (.bool false)).heap[w.heap.size]? = some (.cells #[.int .i64 port, .int .i64 id, .int .i64 2, .int .u64 addr, .int .i64 beats, .slice da dl dc, .slice sa sl sc, .int .i64 0] 43 (0, 0)) := (blk_keep HA0.out (by omega) 3 _)
      have Z1 : (w3.setCell ⟨w.heap.size + 1 + 1, 3, none⟩ (.bool false)).heap[w.heap.size + 1]? = some (.cells #[.int .i64 0, .int .i64 0, .slice none 0 0, .bool false] 40 (0, 0)) := (blk_keep HA1.out (by omega) 3 _)
      have Z2 : (w3.setCell ⟨w.heap.size + 1 + 1, 3, none⟩ (.bool false)).heap[w.heap.size + 1 + 1]? = some (.cells #[.int .i64 0, .int .i64 0, .slice none 0 0, .bool false] 40 (0, 0)) := (blk_set HA2.out 3 _)
      have ZT : Turned (fun k => k = w.heap.size + 1 ∨ k = w.heap.size + 1 + 1) w3 (w3.setCell ⟨w.heap.size + 1 + 1, 3, none⟩ (.bool false)) := ((Turned.refl _ _).set (.inl (.inr rfl)) 3 _)
      generalize (w3.setCell ⟨w.heap.size + 1 + 1, 3, none⟩ (.bool false)) = wz at *
      have HZ0 : Hid (wz.drew.heap[w.heap.size]? = some (.cells #[.int .i64 port, .int .i64 id, .int .i64 2, .int .u64 addr, .int .i64 beats, .slice da dl dc, .slice sa sl sc, .int .i64 0] 43 (0, 0))) := Z0
      have HZ1 : Hid (wz.drew.heap[w.heap.size + 1]? = some (.cells #[.int .i64 0, .int .i64 0, .slice none 0 0, .bool false] 40 (0, 0))) := Z1
      have HZ2 : Hid (wz.drew.heap[w.heap.size + 1 + 1]? = some (.cells #[.int .i64 0, .int .i64 0, .slice none 0 0, .bool false] 40 (0, 0))) := Z2
      have HZT : Hid (Turned (fun k => k = w.heap.size + 1 ∨ k = w.heap.size + 1 + 1) w3 wz.drew) := ZT.drew
      refine wp_region_held_drew (S := fun wq => wq.heap[w.heap.size]? = some (.cells #[.int .i64 port, .int .i64 id, .int .i64 2, .int .u64 addr, .int .i64 beats, .slice da dl dc, .slice sa sl sc, .int .i64 0] 43 (0, 0))) (by kernel_rfl) Z0 (fun hH => ?_)
      generalize wz.drew = wd at *
      clear Z0 Z1 Z2 ZT
      have b0 : wd.cell? ⟨w.heap.size + 1 + 1, 0, none⟩ = some (.int .i64 0) := blk_cell HZ2.out 0
      have b1 : wd.cell? ⟨w.heap.size + 1 + 1, 1, none⟩ = some (.int .i64 0) := blk_cell HZ2.out 1
      have b2 : wd.cell? ⟨w.heap.size + 1 + 1, 2, none⟩ = some (.slice none 0 0) := blk_cell HZ2.out 2
      have b3 : wd.cell? ⟨w.heap.size + 1 + 1, 3, none⟩ = some (.bool false) := blk_cell HZ2.out 3
      have a0 : wd.cell? ⟨w.heap.size + 1, 0, none⟩ = some (.int .i64 0) := blk_cell HZ1.out 0
      have a1 : wd.cell? ⟨w.heap.size + 1, 1, none⟩ = some (.int .i64 0) := blk_cell HZ1.out 1
      have a2 : wd.cell? ⟨w.heap.size + 1, 2, none⟩ = some (.slice none 0 0) := blk_cell HZ1.out 2
      have a3 : wd.cell? ⟨w.heap.size + 1, 3, none⟩ = some (.bool false) := blk_cell HZ1.out 3
      have f0 : wd.frozen? ⟨w.heap.size + 1 + 1, 0, none⟩ = false := blk_frozen HZ2.out 0
      have f1 : wd.frozen? ⟨w.heap.size + 1 + 1, 1, none⟩ = false := blk_frozen HZ2.out 1
      have g0 : wd.frozen? ⟨w.heap.size + 1, 0, none⟩ = false := blk_frozen HZ1.out 0
      have g1 : wd.frozen? ⟨w.heap.size + 1, 1, none⟩ = false := blk_frozen HZ1.out 1
      have g2 : wd.frozen? ⟨w.heap.size + 1, 2, none⟩ = false := blk_frozen HZ1.out 2
      have g3 : wd.frozen? ⟨w.heap.size + 1, 3, none⟩ = false := blk_frozen HZ1.out 3
      refine wpAnyH_take (i := 0) (oi := ⟨some 68, _, _, _, _, _⟩) (v := ?_) rfl (by kernel_rfl) (by kernel_rfl) (by kernel_rfl) (fun _ _ _ h => h) (Or.inl ⟨by kernel_rfl, ?_⟩) hH ?_
      rotate_left 1
      · intro wq hq; have q0 : wq.cell? ⟨w.heap.size, 0, none⟩ = some (.int .i64 port) := blk_cell hq 0; have q1 : wq.cell? ⟨w.heap.size, 1, none⟩ = some (.int .i64 id) := blk_cell hq 1; clear hq; first | (go_simp; done) | (go_simp; with_reducible rfl)
      simp only [Act.put, List.setIfInBounds_toArray, List.set_cons_zero, List.set_cons_succ]
      refine wpAnyH_take (i := 1) (oi := ⟨some 69, _, _, _, _, _⟩) (v := ?_) rfl (by kernel_rfl) (by kernel_rfl) (by kernel_rfl) (fun _ _ _ h => h) (Or.inl ⟨by kernel_rfl, ?_⟩) hH ?_
      rotate_left 1
      · intro wq hq; have q0 : wq.cell? ⟨w.heap.size, 0, none⟩ = some (.int .i64 port) := blk_cell hq 0; have q1 : wq.cell? ⟨w.heap.size, 1, none⟩ = some (.int .i64 id) := blk_cell hq 1; clear hq; first | (go_simp; done) | (go_simp; with_reducible rfl)
      simp only [Act.put, List.setIfInBounds_toArray, List.set_cons_zero, List.set_cons_succ]
      refine wpAnyH_take (i := 2) (oi := ⟨some 70, _, _, _, _, _⟩) (v := ?_) rfl (by kernel_rfl) (by kernel_rfl) (by kernel_rfl) (fun _ _ _ h => h) (Or.inl ⟨by kernel_rfl, ?_⟩) hH ?_
      rotate_left 1
      · intro wq hq; have q0 : wq.cell? ⟨w.heap.size, 0, none⟩ = some (.int .i64 port) := blk_cell hq 0; have q1 : wq.cell? ⟨w.heap.size, 1, none⟩ = some (.int .i64 id) := blk_cell hq 1; clear hq; first | (go_simp; done) | (go_simp; with_reducible rfl)
      simp only [Act.put, List.setIfInBounds_toArray, List.set_cons_zero, List.set_cons_succ]
      refine wpAnyH_take (i := 3) (oi := ⟨some 71, _, _, _, _, _⟩) (v := ?_) rfl (by kernel_rfl) (by kernel_rfl) (by kernel_rfl) (fun _ _ _ h => h) (Or.inl ⟨by kernel_rfl, ?_⟩) hH ?_
      rotate_left 1
      · intro wq hq; have q0 : wq.cell? ⟨w.heap.size, 0, none⟩ = some (.int .i64 port) := blk_cell hq 0; have q1 : wq.cell? ⟨w.heap.size, 1, none⟩ = some (.int .i64 id) := blk_cell hq 1; clear hq; first | (go_simp; done) | (go_simp; with_reducible rfl)
      simp only [Act.put, List.setIfInBounds_toArray, List.set_cons_zero, List.set_cons_succ]
      refine wpAnyH_take (i := 4) (oi := ⟨some 72, _, _, _, _, _⟩) (v := ?_) rfl (by kernel_rfl) (by kernel_rfl) (by kernel_rfl) (fun _ _ _ h => h) (Or.inl ⟨by kernel_rfl, ?_⟩) hH ?_
      rotate_left 1
      · intro wq hq; have q0 : wq.cell? ⟨w.heap.size, 0, none⟩ = some (.int .i64 port) := blk_cell hq 0; have q1 : wq.cell? ⟨w.heap.size, 1, none⟩ = some (.int .i64 id) := blk_cell hq 1; clear hq; first | (go_simp; done) | (go_simp; with_reducible rfl)
      simp only [Act.put, List.setIfInBounds_toArray, List.set_cons_zero, List.set_cons_succ]
      refine wpAnyH_ready (rs := [5]) (by kernel_rfl) (by simp) (AllReadyH.cons (o := ⟨none, _, _, _, _, _⟩) rfl (fun K hK => ?_) AllReadyH.nil)
      go_simp
      skip
      refine hK.out _ _ (blk_keep HZ0.out (by omega) _ _) (fun hH => ?_)
      clear hK K
      try simp only [Act.put, List.setIfInBounds_toArray, List.set_cons_zero, List.set_cons_succ]
      refine wpAnyH_take (i := 6) (oi := ⟨some 73, _, _, _, _, _⟩) (v := ?_) rfl (by kernel_rfl) (by kernel_rfl) (by kernel_rfl) (fun _ _ _ h => h) (Or.inl ⟨by kernel_rfl, ?_⟩) hH ?_
      rotate_left 1
      · intro wq hq; have q0 : wq.cell? ⟨w.heap.size, 0, none⟩ = some (.int .i64 port) := blk_cell hq 0; have q1 : wq.cell? ⟨w.heap.size, 1, none⟩ = some (.int .i64 id) := blk_cell hq 1; clear hq; first | (go_simp; done) | (go_simp; with_reducible rfl)
      simp only [Act.put, List.setIfInBounds_toArray, List.set_cons_zero, List.set_cons_succ]
      refine wpAnyH_ready (rs := [7]) (by kernel_rfl) (by simp) (AllReadyH.cons (o := ⟨none, _, _, _, _, _⟩) rfl (fun K hK => ?_) AllReadyH.nil)
      go_simp
      skip
      refine hK.out _ _ (blk_keep (blk_keep HZ0.out (by omega) _ _) (by omega) _ _) (fun hH => ?_)
      clear hK K
      try simp only [Act.put, List.setIfInBounds_toArray, List.set_cons_zero, List.set_cons_succ]
      refine wpAnyH_done (by kernel_rfl) ?_ _
      clear hH
      go_wp2
      have FC : ((((((wd.setCell ⟨w.heap.size + 1 + 1, 0, none⟩ (.int .i64 port)).setCell ⟨w.heap.size + 1 + 1, 1, none⟩ (.int .i64 id)).setCell ⟨w.heap.size + 1, 0, none⟩ (.int .i64 port)).setCell ⟨w.heap.size + 1, 1, none⟩ (.int .i64 id)).setCell ⟨w.heap.size + 1, 2, none⟩ (.slice none 0 0)).setCell ⟨w.heap.size + 1, 3, none⟩ (.bool false)).heap[w.heap.size + 1]? = some (.cells #[.int .i64 port, .int .i64 id, .slice none 0 0, .bool false] 40 (0, 0)) := (blk_set (blk_set (blk_set (blk_set (blk_keep (blk_keep HZ1.out (by omega) 0 _) (by omega) 1 _) 0 _) 1 _) 2 _) 3 _)
      have FT := Lib.hid (show Turned (fun k => k = w.heap.size + 1 ∨ k = w.heap.size + 1 + 1) w3 ((((((wd.setCell ⟨w.heap.size + 1 + 1, 0, none⟩ (.int .i64 port)).setCell ⟨w.heap.size + 1 + 1, 1, none⟩ (.int .i64 id)).setCell ⟨w.heap.size + 1, 0, none⟩ (.int .i64 port)).setCell ⟨w.heap.size + 1, 1, none⟩ (.int .i64 id)).setCell ⟨w.heap.size + 1, 2, none⟩ (.slice none 0 0)).setCell ⟨w.heap.size + 1, 3, none⟩ (.bool false)) from ((((((HZT.out.set (.inl (.inr rfl)) 0 _).set (.inl (.inr rfl)) 1 _).set (.inl (.inl rfl)) 0 _).set (.inl (.inl rfl)) 1 _).set (.inl (.inl rfl)) 2 _).set (.inl (.inl rfl)) 3 _))
      generalize ((((((wd.setCell ⟨w.heap.size + 1 + 1, 0, none⟩ (.int .i64 port)).setCell ⟨w.heap.size + 1 + 1, 1, none⟩ (.int .i64 id)).setCell ⟨w.heap.size + 1, 0, none⟩ (.int .i64 port)).setCell ⟨w.heap.size + 1, 1, none⟩ (.int .i64 id)).setCell ⟨w.heap.size + 1, 2, none⟩ (.slice none 0 0)).setCell ⟨w.heap.size + 1, 3, none⟩ (.bool false)) = wf at *
      refine bodyPost_ret (res_c _ _ _ (w.heap.size + 1) #[.int .i64 port, .int .i64 id, .slice none 0 0, .bool false] rfl (lv_rep _ _ _ (rowIs_of FC) (rowOf_of FC)) rfl) rfl ?_
      exact ⟨rfl, HTO.out.aside HOW.out HB0.out HRR.out FT.out (by omega) (by omega) (by have := HSZ.out; omega) (by have := HSZ.out; omega)⟩
    case true =>
      go_upto_region 14 with fail
      have Z0 : (w3.setCell ⟨w.heap.size + 1 + 1, 3, none⟩ (.bool true)).heap[w.heap.size]? = some (.cells #[.int .i64 port, .int .i64 id, .int .i64 2, .int .u64 addr, .int .i64 beats, .slice da dl dc, .slice sa sl sc, .int .i64 0] 43 (0, 0)) := (blk_keep HA0.out (by omega) 3 _)
      have Z1 : (w3.setCell ⟨w.heap.size + 1 + 1, 3, none⟩ (.bool true)).heap[w.heap.size + 1]? = some (.cells #[.int .i64 0, .int .i64 0, .slice none 0 0, .bool false] 40 (0, 0)) := (blk_keep HA1.out (by omega) 3 _)
      have Z2 : (w3.setCell ⟨w.heap.size + 1 + 1, 3, none⟩ (.bool true)).heap[w.heap.size + 1 + 1]? = some (.cells #[.int .i64 0, .int .i64 0, .slice none 0 0, .bool true] 40 (0, 0)) := (blk_set HA2.out 3 _)
      have ZT : Turned (fun k => k = w.heap.size + 1 ∨ k = w.heap.size + 1 + 1) w3 (w3.setCell ⟨w.heap.size + 1 + 1, 3, none⟩ (.bool true)) := ((Turned.refl _ _).set (.inl (.inr rfl)) 3 _)
      generalize (w3.setCell ⟨w.heap.size + 1 + 1, 3, none⟩ (.bool true)) = wz at *
      have HZ0 : Hid (wz.drew.heap[w.heap.size]? = some (.cells #[.int .i64 port, .int .i64 id, .int .i64 2, .int .u64 addr, .int .i64 beats, .slice da dl dc, .slice sa sl sc, .int .i64 0] 43 (0, 0))) := Z0
      have HZ1 : Hid (wz.drew.heap[w.heap.size + 1]? = some (.cells #[.int .i64 0, .int .i64 0, .slice none 0 0, .bool false] 40 (0, 0))) := Z1
      have HZ2 : Hid (wz.drew.heap[w.heap.size + 1 + 1]? = some (.cells #[.int .i64 0, .int .i64 0, .slice none 0 0, .bool true] 40 (0, 0))) := Z2
      have HZT : Hid (Turned (fun k => k = w.heap.size + 1 ∨ k = w.heap.size + 1 + 1) w3 wz.drew) := ZT.drew
      refine wp_region_held_drew (S := fun wq => wq.heap[w.heap.size]? = some (.cells #[.int .i64 port, .int .i64 id, .int .i64 2, .int .u64 addr, .int .i64 beats, .slice da dl dc, .slice sa sl sc, .int .i64 0] 43 (0, 0))) (by kernel_rfl) Z0 (fun hH => ?_)
      generalize wz.drew = wd at *
      clear Z0 Z1 Z2 ZT
      have b0 : wd.cell? ⟨w.heap.size + 1 + 1, 0, none⟩ = some (.int .i64 0) := blk_cell HZ2.out 0
      have b1 : wd.cell? ⟨w.heap.size + 1 + 1, 1, none⟩ = some (.int .i64 0) := blk_cell HZ2.out 1
      have b2 : wd.cell? ⟨w.heap.size + 1 + 1, 2, none⟩ = some (.slice none 0 0) := blk_cell HZ2.out 2
      have b3 : wd.cell? ⟨w.heap.size + 1 + 1, 3, none⟩ = some (.bool true) := blk_cell HZ2.out 3
      have a0 : wd.cell? ⟨w.heap.size + 1, 0, none⟩ = some (.int .i64 0) := blk_cell HZ1.out 0
      have a1 : wd.cell? ⟨w.heap.size + 1, 1, none⟩ = some (.int .i64 0) := blk_cell HZ1.out 1
      have a2 : wd.cell? ⟨w.heap.size + 1, 2, none⟩ = some (.slice none 0 0) := blk_cell HZ1.out 2
      have a3 : wd.cell? ⟨w.heap.size + 1, 3, none⟩ = some (.bool false) := blk_cell HZ1.out 3
      have f0 : wd.frozen? ⟨w.heap.size + 1 + 1, 0, none⟩ = false := blk_frozen HZ2.out 0
      have f1 : wd.frozen? ⟨w.heap.size + 1 + 1, 1, none⟩ = false := blk_frozen HZ2.out 1
      have g0 : wd.frozen? ⟨w.heap.size + 1, 0, none⟩ = false := blk_frozen HZ1.out 0
      have g1 : wd.frozen? ⟨w.heap.size + 1, 1, none⟩ = false := blk_frozen HZ1.out 1
      have g2 : wd.frozen? ⟨w.heap.size + 1, 2, none⟩ = false := blk_frozen HZ1.out 2
      have g3 : wd.frozen? ⟨w.heap.size + 1, 3, none⟩ = false := blk_frozen HZ1.out 3
      refine wpAnyH_take (i := 0) (oi := ⟨some 68, _, _, _, _, _⟩) (v := ?_) rfl (by kernel_rfl) (by kernel_rfl) (by kernel_rfl) (fun _ _ _ h => h) (Or.inl ⟨by kernel_rfl, ?_⟩) hH ?_
      rotate_left 1
      · intro wq hq; have q0 : wq.cell? ⟨w.heap.size, 0, none⟩ = some (.int .i64 port) := blk_cell hq 0; have q1 : wq.cell? ⟨w.heap.size, 1, none⟩ = some (.int .i64 id) := blk_cell hq 1; clear hq; first | (go_simp; done) | (go_simp; with_reducible rfl)
      simp only [Act.put, List.setIfInBounds_toArray, List.set_cons_zero, List.set_cons_succ]
      refine wpAnyH_take (i := 1) (oi := ⟨some 69, _, _, _, _, _⟩) (v := ?_) rfl (by kernel_rfl) (by kernel_rfl) (by kernel_rfl) (fun _ _ _ h => h) (Or.inl ⟨by kernel_rfl, ?_⟩) hH ?_
      rotate_left 1
      · intro wq hq; have q0 : wq.cell? ⟨w.heap.size, 0, none⟩ = some (.int .i64 port) := blk_cell hq 0; have q1 : wq.cell? ⟨w.heap.size, 1, none⟩ = some (.int .i64 id) := blk_cell hq 1; clear hq; first | (go_simp; done) | (go_simp; with_reducible rfl)
      simp only [Act.put, List.setIfInBounds_toArray, List.set_cons_zero, List.set_cons_succ]
      refine wpAnyH_take (i := 2) (oi := ⟨some 70, _, _, _, _, _⟩) (v := ?_) rfl (by kernel_rfl) (by kernel_rfl) (by kernel_rfl) (fun _ _ _ h => h) (Or.inl ⟨by kernel_rfl, ?_⟩) hH ?_
      rotate_left 1
      · intro wq hq; have q0 : wq.cell? ⟨w.heap.size, 0, none⟩ = some (.int .i64 port) := blk_cell hq 0; have q1 : wq.cell? ⟨w.heap.size, 1, none⟩ = some (.int .i64 id) := blk_cell hq 1; clear hq; first | (go_simp; done) | (go_simp; with_reducible rfl)
      simp only [Act.put, List.setIfInBounds_toArray, List.set_cons_zero, List.set_cons_succ]
      refine wpAnyH_take (i := 3) (oi := ⟨some 71, _, _, _, _, _⟩) (v := ?_) rfl (by kernel_rfl) (by kernel_rfl) (by kernel_rfl) (fun _ _ _ h => h) (Or.inl ⟨by kernel_rfl, ?_⟩) hH ?_
      rotate_left 1
      · intro wq hq; have q0 : wq.cell? ⟨w.heap.size, 0, none⟩ = some (.int .i64 port) := blk_cell hq 0; have q1 : wq.cell? ⟨w.heap.size, 1, none⟩ = some (.int .i64 id) := blk_cell hq 1; clear hq; first | (go_simp; done) | (go_simp; with_reducible rfl)
      simp only [Act.put, List.setIfInBounds_toArray, List.set_cons_zero, List.set_cons_succ]
      refine wpAnyH_take (i := 4) (oi := ⟨some 72, _, _, _, _, _⟩) (v := ?_) rfl (by kernel_rfl) (by kernel_rfl) (by kernel_rfl) (fun _ _ _ h => h) (Or.inl ⟨by kernel_rfl, ?_⟩) hH ?_
      rotate_left 1
      · intro wq hq; have q0 : wq.cell? ⟨w.heap.size, 0, none⟩ = some (.int .i64 port) := blk_cell hq 0; have q1 : wq.cell? ⟨w.heap.size, 1, none⟩ = some (.int .i64 id) := blk_cell hq 1; clear hq; first | (go_simp; done) | (go_simp; with_reducible rfl)
      simp only [Act.put, List.setIfInBounds_toArray, List.set_cons_zero, List.set_cons_succ]
      refine wpAnyH_ready (rs := [5]) (by kernel_rfl) (by simp) (AllReadyH.cons (o := ⟨none, _, _, _, _, _⟩) rfl (fun K hK => ?_) AllReadyH.nil)
      go_simp
      skip
      refine hK.out _ _ (blk_keep HZ0.out (by omega) _ _) (fun hH => ?_)
      clear hK K
      try simp only [Act.put, List.setIfInBounds_toArray, List.set_cons_zero, List.set_cons_succ]
      refine wpAnyH_take (i := 6) (oi := ⟨some 73, _, _, _, _, _⟩) (v := ?_) rfl (by kernel_rfl) (by kernel_rfl) (by kernel_rfl) (fun _ _ _ h => h) (Or.inl ⟨by kernel_rfl, ?_⟩) hH ?_
      rotate_left 1
      · intro wq hq; have q0 : wq.cell? ⟨w.heap.size, 0, none⟩ = some (.int .i64 port) := blk_cell hq 0; have q1 : wq.cell? ⟨w.heap.size, 1, none⟩ = some (.int .i64 id) := blk_cell hq 1; clear hq; first | (go_simp; done) | (go_simp; with_reducible rfl)
      simp only [Act.put, List.setIfInBounds_toArray, List.set_cons_zero, List.set_cons_succ]
      refine wpAnyH_ready (rs := [7]) (by kernel_rfl) (by simp) (AllReadyH.cons (o := ⟨none, _, _, _, _, _⟩) rfl (fun K hK => ?_) AllReadyH.nil)
      go_simp
      skip
      refine hK.out _ _ (blk_keep (blk_keep HZ0.out (by omega) _ _) (by omega) _ _) (fun hH => ?_)
      clear hK K
      try simp only [Act.put, List.setIfInBounds_toArray, List.set_cons_zero, List.set_cons_succ]
      refine wpAnyH_done (by kernel_rfl) ?_ _
      clear hH
      go_wp2
      have FC : ((((((wd.setCell ⟨w.heap.size + 1 + 1, 0, none⟩ (.int .i64 port)).setCell ⟨w.heap.size + 1 + 1, 1, none⟩ (.int .i64 id)).setCell ⟨w.heap.size + 1, 0, none⟩ (.int .i64 port)).setCell ⟨w.heap.size + 1, 1, none⟩ (.int .i64 id)).setCell ⟨w.heap.size + 1, 2, none⟩ (.slice none 0 0)).setCell ⟨w.heap.size + 1, 3, none⟩ (.bool true)).heap[w.heap.size + 1]? = some (.cells #[.int .i64 port, .int .i64 id, .slice none 0 0, .bool true] 40 (0, 0)) := (blk_set (blk_set (blk_set (blk_set (blk_keep (blk_keep HZ1.out (by omega) 0 _) (by omega) 1 _) 0 _) 1 _) 2 _) 3 _)
      have FT := Lib.hid (show Turned (fun k => k = w.heap.size + 1 ∨ k = w.heap.size + 1 + 1) w3 ((((((wd.setCell ⟨w.heap.size + 1 + 1, 0, none⟩ (.int .i64 port)).setCell ⟨w.heap.size + 1 + 1, 1, none⟩ (.int .i64 id)).setCell ⟨w.heap.size + 1, 0, none⟩ (.int .i64 port)).setCell ⟨w.heap.size + 1, 1, none⟩ (.int .i64 id)).setCell ⟨w.heap.size + 1, 2, none⟩ (.slice none 0 0)).setCell ⟨w.heap.size + 1, 3, none⟩ (.bool true)) from ((((((HZT.out.set (.inl (.inr rfl)) 0 _).set (.inl (.inr rfl)) 1 _).set (.inl (.inl rfl)) 0 _).set (.inl (.inl rfl)) 1 _).set (.inl (.inl rfl)) 2 _).set (.inl (.inl rfl)) 3 _))
      generalize ((((((wd.setCell ⟨w.heap.size + 1 + 1, 0, none⟩ (.int .i64 port)).setCell ⟨w.heap.size + 1 + 1, 1, none⟩ (.int .i64 id)).setCell ⟨w.heap.size + 1, 0, none⟩ (.int .i64 port)).setCell ⟨w.heap.size + 1, 1, none⟩ (.int .i64 id)).setCell ⟨w.heap.size + 1, 2, none⟩ (.slice none 0 0)).setCell ⟨w.heap.size + 1, 3, none⟩ (.bool true)) = wf at *
      refine bodyPost_ret (res_c _ _ _ (w.heap.size + 1) #[.int .i64 port, .int .i64 id, .slice none 0 0, .bool true] rfl (lv_rep _ _ _ (rowIs_of FC) (rowOf_of FC)) rfl) rfl ?_
      exact ⟨rfl, HTO.out.aside HOW.out HB0.out HRR.out FT.out (by omega) (by omega) (by have := HSZ.out; omega) (by have := HSZ.out; omega)⟩
end
end Go.Proofs.Ytefcdbpmpnmkjaa
end
