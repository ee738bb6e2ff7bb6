/- Contract of the soc's Devices: what the devices hold. What may be: pma.May of a load or a store. No condition. Contract of bits.Zext at the widths of an access. No condition. Contract of the soc's may: why an access may not be. No condition. Contract of the soc's note: the log grows by that access. Contracts of the clint: its registers. No condition. Contract of the devices' at. No condition. -/
import Derived.Test.YtefcdbpmpnmkjaaPack4
import Derived.Test.YtefcdbpmpnmkjaaPack3
import Derived.StillTailTactics
import Derived.BigRegion
import Derived.Deep.RegionWith
import Derived.Deep.RegionHeld3
import Derived.Deep.QuietTactic
import Derived.BigQuiet
import Derived.Deep.DeepFit
import Derived.Deep.DeepMust
import Derived.Handy
import Derived.Test.YtefcdbpmpnmkjaaPack2
import Derived.Maps.OwnIn
import Derived.RangeFuncBox
import Derived.Deep.RegionLaw
section
set_option linter.unusedVariables false
set_option linter.unusedSimpArgs false
namespace Go.Proofs.Ytefcdbpmpnmkjaa
open Go.RowKit
set_option maxRecDepth 100000
attribute [local go_sem ↓] ld_dev ld_plc st_dev st_plc
attribute [local go_sem] rl_dev rl_plc rs_dev rs_plc Dev.size_cells Dev.st_ok row_alloc row_drew row_drewN is_alloc is_drew is_drewN row_setCell is_setCell setRow_alloc_new objRow_cells objIs_cells row_setRow_same row_setRow_other is_setRow_same is_setRow_other
/-- two lists of bytes of the call's own -/
def TwoRows (w : World) (u : UartS) (W : World) (ra : Option Addr) (rc : Nat) (ta : Option Addr) (tc : Nat) : Prop := W.ownsRow w.heap.size 5 1 (.slice ra u.n rc) u.n ((u.rx u.n).map (Value.int .u8)) ∧ W.ownsRow w.heap.size 5 1 (.slice ta u.sent.length tc) u.sent.length (u.sent.map (Value.int .u8)) ∧ (∀ g, (Value.slice ra u.n rc).ownBlock = some g → (Value.slice ta u.sent.length tc).ownBlock ≠ some g)
theorem TwoRows.turned {w W W' : World} {u : UartS} {ra : Option Addr} {rc : Nat} {ta : Option Addr} {tc : Nat} {S : Nat → Prop} (h : TwoRows w u W ra rc ta tc) (ht : Turned S W W') (hS : ∀ g, S g → ∀ C, W.heap[g]? ≠ some (.cells C 5 (0, 0))) : TwoRows w u W' ra rc ta tc :=
  ⟨own_turned h.1 ht fun g hg hs => by obtain ⟨C, hC⟩ := own_cells h.1 hg; exact hS g hs C hC, own_turned h.2.1 ht fun g hg hs => by obtain ⟨C, hC⟩ := own_cells h.2.1 hg; exact hS g hs C hC, h.2.2⟩
structure DV (w : World) (β : SocB) (σ : SocS) (lg sn : Value) (SR : Nat → Prop) (W : World) (p3 p4 : Option Nat) (q : Option (Option Addr × Nat × Option Addr × Nat)) : Prop where
  soc : SocIs W β σ lg sn SR
  below : Below w.heap.size w W
  res : W.heap[w.heap.size]? = some (.cells dev0.cells 57 (0, 0))
  g3 : ∀ g, p3 = some g → w.heap.size < g ∧ W.heap[g]? = some (.cells dev0.cells 57 (0, 0))
  g4 : ∀ g, p4 = some g → w.heap.size < g ∧ W.heap[g]? = some (.cells dev0.cells 57 (0, 0))
  ne : ∀ a b, p3 = some a → p4 = some b → a ≠ b
  rows : ∀ ra rc ta tc, q = some (ra, rc, ta, tc) → TwoRows w σ.u W ra rc ta tc
  own : ∀ g, SocOwn β lg sn SR g → g < w.heap.size
section
variable {w W W' : World} {β : SocB} {σ : SocS} {lg sn : Value} {SR : Nat → Prop} {p3 p4 : Option Nat} {q : Option (Option Addr × Nat × Option Addr × Nat)}
theorem DV.to (h : DV w β σ lg sn SR W p3 p4 q) (hb : Below W.heap.size W W') : DV w β σ lg sn SR W' p3 p4 q :=
  ⟨h.soc.below hb, below_then h.below hb h.below.size, (hb.block _ (blk_lt h.res)).trans h.res, fun g e => ⟨(h.g3 g e).1, (hb.block _ (blk_lt (h.g3 g e).2)).trans (h.g3 g e).2⟩, fun g e => ⟨(h.g4 g e).1, (hb.block _ (blk_lt (h.g4 g e).2)).trans (h.g4 g e).2⟩, h.ne,
    fun ra rc ta tc e => (h.rows ra rc ta tc e).turned (Turned.of_below hb fun _ => False) fun _ e => e.elim, h.own⟩
theorem DV.alloc3 (h : DV w β σ lg sn SR W none p4 q) : DV w β σ lg sn SR (W.alloc (.cells #[.bool false, .int .u64 0, .int .u64 0, .int .u32 0, .int .u32 0, .int .u32 0, .int .u32 0, .int .u32 0, .int .u32 0, .int .u32 0, .int .u32 0, .int .u32 0, .int .u32 0, .int .u32 0, .int .u32 0, .int .u32 0, .int .u32 0, .int .u32 0, .slice none 0 0, .slice none 0 0, .int .u32 0, .bool false] 57)) (some W.heap.size) p4 q := by
  change DV w β σ lg sn SR (W.alloc (.cells dev0.cells 57)) (some W.heap.size) p4 q
  have k := h.to ((Below.refl _ W).alloc (Nat.le_refl _) (.cells dev0.cells 57))
  have hl := blk_lt h.res
  refine ⟨k.soc, k.below, k.res, fun g e => ?_, k.g4, fun a b ea eb => ?_, k.rows, k.own⟩
  · cases e; exact ⟨hl, blk_alloc _ _⟩
  · cases ea; have := blk_lt (h.g4 b eb).2; omega
theorem DV.alloc4 (h : DV w β σ lg sn SR W p3 none q) : DV w β σ lg sn SR (W.alloc (.cells #[.bool false, .int .u64 0, .int .u64 0, .int .u32 0, .int .u32 0, .int .u32 0, .int .u32 0, .int .u32 0, .int .u32 0, .int .u32 0, .int .u32 0, .int .u32 0, .int .u32 0, .int .u32 0, .int .u32 0, .int .u32 0, .int .u32 0, .int .u32 0, .slice none 0 0, .slice none 0 0, .int .u32 0, .bool false] 57)) p3 (some W.heap.size) q := by
  change DV w β σ lg sn SR (W.alloc (.cells dev0.cells 57)) p3 (some W.heap.size) q
  have k := h.to ((Below.refl _ W).alloc (Nat.le_refl _) (.cells dev0.cells 57))
  have hl := blk_lt h.res
  refine ⟨k.soc, k.below, k.res, k.g3, fun g e => ?_, fun a b ea eb => ?_, k.rows, k.own⟩
  · cases e; exact ⟨hl, blk_alloc _ _⟩
  · cases eb; have := blk_lt (h.g3 a ea).2; omega
theorem DV.call (h : DV w β σ lg sn SR W p3 p4 none) {ra ta : Option Addr} {rc tc : Nat} (h1 : W'.ownsRow W.heap.size 5 1 (.slice ra σ.u.n rc) σ.u.n ((σ.u.rx σ.u.n).map (Value.int .u8))) (h2 : W'.ownsRow W.heap.size 5 1 (.slice ta σ.u.sent.length tc) σ.u.sent.length (σ.u.sent.map (Value.int .u8))) (h3 : ∀ g, (Value.slice ra σ.u.n rc).ownBlock = some g → (Value.slice ta σ.u.sent.length tc).ownBlock ≠ some g) (hb : Below W.heap.size W W') : DV w β σ lg sn SR W' p3 p4 (some (ra, rc, ta, tc)) := by
  have k := h.to hb
  refine ⟨k.soc, k.below, k.res, k.g3, k.g4, k.ne, fun ra rc ta tc e => ?_, k.own⟩
  cases e
  exact ⟨own_mono h1 h.below.size, own_mono h2 h.below.size, h3⟩
end
/-- both states lie in blocks of their own -/
structure DW (w : World) (β : SocB) (σ : SocS) (lg sn : Value) (SR : Nat → Prop) (W : World) (g3 g4 : Nat) (C3 : Array Value) (ra : Option Addr) (rc : Nat) (ta : Option Addr) (tc : Nat) : Prop where
  soc : SocIs W β σ lg sn SR
  below : Below w.heap.size w W
  res : W.heap[w.heap.size]? = some (.cells dev0.cells 57 (0, 0))
  b3 : W.heap[g3]? = some (.cells C3 57 (0, 0))
  b4 : W.heap[g4]? = some (.cells (stateDev σ.u ra σ.u.n rc ta σ.u.sent.length tc).cells 57 (0, 0))
  l3 : w.heap.size < g3
  l4 : w.heap.size < g4
  ne : g3 ≠ g4
  rows : TwoRows w σ.u W ra rc ta tc
  own : ∀ g, SocOwn β lg sn SR g → g < w.heap.size
theorem cells_ne8 {w : World} {g : Nat} {C : Array Value} {T : TypeId} (h : w.heap[g]? = some (.cells C T (0, 0))) (hT : T ≠ 5) : ∀ C', w.heap[g]? ≠ some (.cells C' 5 (0, 0)) := fun C' h' => type_ne h h' hT rfl
theorem SocIs.above {w W W' : World} {β : SocB} {σ : SocS} {lg sn : Value} {SR : Nat → Prop} (h : SocIs W β σ lg sn SR) {g : Nat} (ho : ∀ g, SocOwn β lg sn SR g → g < w.heap.size) (hl : w.heap.size < g) {C : Array Value} (hg : W.heap[g]? = some (.cells C 57 (0, 0))) (ht : Turned (fun k => k = g) W W') : SocIs W' β σ lg sn SR :=
  h.turned ht (fun e => by obtain ⟨C', hC⟩ := ram_at h.r; exact type_ne hC hg (by decide) e) (fun k hk e => by have := ho k hk; omega)
theorem setRow_turned (W : World) (g : Nat) (C : Array Value) : Turned (fun k => k = g) W (W.setRow g C) := ⟨rfl, rfl, rfl, by simp [World.setRow], fun q hq hn => setRow_other _ _ q _ hn⟩
structure DZ (w : World) (β : SocB) (σ : SocS) (lg sn : Value) (SR : Nat → Prop) (W : World) (g3 g4 : Nat) (ra : Option Addr) (rc : Nat) (ta : Option Addr) (tc : Nat) : Prop where
  soc1 : SocIs (W.setRow g3 σ.p.cells) β σ lg sn SR
  soc2 : SocIs ((W.setRow g3 σ.p.cells).setRow g4 (stateDev σ.u ra σ.u.n rc ta σ.u.sent.length tc).cells) β σ lg sn SR
  dw : DW w β σ lg sn SR ((W.setRow g3 σ.p.cells).setRow g4 (stateDev σ.u ra σ.u.n rc ta σ.u.sent.length tc).cells) g3 g4 σ.p.cells ra rc ta tc
theorem DV.fin {w W : World} {β : SocB} {σ : SocS} {lg sn : Value} {SR : Nat → Prop} {p3 p4 : Option Nat} {q : Option (Option Addr × Nat × Option Addr × Nat)} {g3 g4 rc tc : Nat} {ra ta : Option Addr} (h : DV w β σ lg sn SR W p3 p4 q) (e3 : p3 = some g3) (e4 : p4 = some g4) (eq : q = some (ra, rc, ta, tc)) : DZ w β σ lg sn SR W g3 g4 ra rc ta tc := by
  obtain ⟨l3, b3⟩ := h.g3 g3 e3
  obtain ⟨l4, b4⟩ := h.g4 g4 e4
  have hne := h.ne g3 g4 e3 e4
  have t1 := setRow_turned W g3 σ.p.cells
  have s1 := h.soc.above h.own l3 b3 t1
  have b4' := t1.keep (fun e => hne e.symm) b4
  have t2 := setRow_turned (W.setRow g3 σ.p.cells) g4 (stateDev σ.u ra σ.u.n rc ta σ.u.sent.length tc).cells
  have s2 := s1.above h.own l4 b4' t2
  have b3' := setRow_heap W g3 _ σ.p.cells _ _ b3
  refine ⟨s1, s2, s2, turned_below (turned_below h.below t1 (fun g e => by omega) h.below.size) t2 (fun g e => by omega) (by have := h.below.size; have := t1.size; omega), t2.keep (by omega) (t1.keep (by omega) h.res), t2.keep (by omega) b3', setRow_heap _ _ _ _ _ _ b4', l3, l4, hne, ?_, h.own⟩
  exact ((h.rows _ _ _ _ eq).turned t1 (fun g e => by subst e; exact cells_ne8 b3 (by decide))).turned t2 (fun g e => by subst e; exact cells_ne8 b4' (by decide))
theorem DW.set {w W : World} {β : SocB} {σ : SocS} {lg sn : Value} {SR : Nat → Prop} {g3 g4 rc tc : Nat} {C3 : Array Value} {ra ta : Option Addr} (h : DW w β σ lg sn SR W g3 g4 C3 ra rc ta tc) (o : Nat) (v : Value) : DW w β σ lg sn SR (W.setCell ⟨g3, o, none⟩ v) g3 g4 (C3.setIfInBounds o v) ra rc ta tc := by
  have ht : Turned (fun k => k = g3) W (W.setCell ⟨g3, o, none⟩ v) := (Turned.refl (fun k => k = g3) W).set (.inl rfl) o v
  have l3 := h.l3
  exact ⟨h.soc.above h.own h.l3 h.b3 ht, turned_below h.below ht (fun g e => by omega) h.below.size, ht.keep (by omega) h.res, blk_set h.b3 o v, ht.keep (fun e => h.ne e.symm) h.b4, h.l3, h.l4, h.ne, h.rows.turned ht (fun g e => by subst e; exact cells_ne8 h.b3 (by decide)), h.own⟩
theorem DW.to {w W W' : World} {β : SocB} {σ : SocS} {lg sn : Value} {SR : Nat → Prop} {g3 g4 rc tc : Nat} {C3 : Array Value} {ra ta : Option Addr} (h : DW w β σ lg sn SR W g3 g4 C3 ra rc ta tc) (hb : Below W.heap.size W W') : DW w β σ lg sn SR W' g3 g4 C3 ra rc ta tc :=
  ⟨h.soc.below hb, below_then h.below hb h.below.size, (hb.block _ (blk_lt h.res)).trans h.res, (hb.block _ (blk_lt h.b3)).trans h.b3, (hb.block _ (blk_lt h.b4)).trans h.b4, h.l3, h.l4, h.ne, h.rows.turned (Turned.of_below hb fun _ => False) (fun _ e => e.elim), h.own⟩
theorem DW.drewN {w W : World} {β : SocB} {σ : SocS} {lg sn : Value} {SR : Nat → Prop} {g3 g4 rc tc : Nat} {C3 : Array Value} {ra ta : Option Addr} (h : DW w β σ lg sn SR W g3 g4 C3 ra rc ta tc) (n : Nat) : DW w β σ lg sn SR (W.drewN n) g3 g4 C3 ra rc ta tc := h.to (below_drewN (Below.refl _ _) n)
theorem DW.drew {w W : World} {β : SocB} {σ : SocS} {lg sn : Value} {SR : Nat → Prop} {g3 g4 rc tc : Nat} {C3 : Array Value} {ra ta : Option Addr} (h : DW w β σ lg sn SR W g3 g4 C3 ra rc ta tc) : DW w β σ lg sn SR W.drew g3 g4 C3 ra rc ta tc := h.to (Below.refl _ _).drew
def SocS.dev (σ : SocS) (ra : Option Addr) (rc : Nat) (ta : Option Addr) (tc : Nat) : Dev := ⟨σ.c.soft, σ.c.time, σ.c.cmp, σ.p.pr, σ.p.pend, σ.p.cla, σ.p.en, σ.p.th, σ.levels, ra, σ.u.n, rc, ta, σ.u.sent.length, tc, σ.u.on, σ.u.lost⟩
def SocS.devp (σ : SocS) (ra : Option Addr) (rc : Nat) (ta : Option Addr) (tc : Nat) : Dev := ⟨σ.c.soft, σ.c.time, σ.c.cmp, σ.p.pr, σ.p.pend, σ.p.cla, σ.p.en, σ.p.th, σ.p.lines, ra, σ.u.n, rc, ta, σ.u.sent.length, tc, σ.u.on, σ.u.lost⟩
theorem SocS.devp_eq (σ : SocS) (ra : Option Addr) (rc : Nat) (ta : Option Addr) (tc : Nat) : (((((((σ.p.cells.setIfInBounds 0 (.bool σ.c.soft)).setIfInBounds 1 (.int .u64 σ.c.time)).setIfInBounds 2 (.int .u64 σ.c.cmp)).setIfInBounds 18 (.slice ra σ.u.n rc)).setIfInBounds 19 (.slice ta σ.u.sent.length tc)).setIfInBounds 20 (.int .u32 σ.u.on)).setIfInBounds 21 (.bool σ.u.lost)) = (σ.devp ra rc ta tc).cells := by
  simp only [Dev.cells, SocS.devp, List.setIfInBounds_toArray, List.set_cons_zero, List.set_cons_succ]
theorem SocS.dev_eq (σ : SocS) (ra : Option Addr) (rc : Nat) (ta : Option Addr) (tc : Nat) : (σ.devp ra rc ta tc).cells.setIfInBounds 17 (.int .u32 σ.levels) = (σ.dev ra rc ta tc).cells := by
  simp only [Dev.cells, SocS.devp, SocS.dev, List.setIfInBounds_toArray, List.set_cons_zero, List.set_cons_succ]
theorem DW.conv {w W : World} {β : SocB} {σ : SocS} {lg sn : Value} {SR : Nat → Prop} {g3 g4 rc tc : Nat} {C3 C4 : Array Value} {ra ta : Option Addr} (h : DW w β σ lg sn SR W g3 g4 C3 ra rc ta tc) (e : C3 = C4) : DW w β σ lg sn SR W g3 g4 C4 ra rc ta tc := e ▸ h
/-- the devices' state, with two lists of bytes of its own -/
def DevsIs (w : World) (σ : SocS) (e : Ending) (w' : World) : Prop := ∃ ra rc ta tc, e = .returned (.agg (σ.dev ra rc ta tc).cells) ∧ TwoRows w σ.u w' ra rc ta tc ∧ Below w.heap.size w w'
def DVE (w : World) (β : SocB) (σ : SocS) (lg sn : Value) (SR : Nat → Prop) (s3 s4 : Value) (W : World) : Prop := ∃ g3 g4 ra rc ta tc, s3 = .pointer (some ⟨g3, 0, none⟩) ∧ s4 = .pointer (some ⟨g4, 0, none⟩) ∧ DW w β σ lg sn SR W g3 g4 σ.p.cells ra rc ta tc
theorem DZ.dve {w W : World} {β : SocB} {σ : SocS} {lg sn : Value} {SR : Nat → Prop} {g3 g4 rc tc : Nat} {ra ta : Option Addr} (h : DZ w β σ lg sn SR W g3 g4 ra rc ta tc) : DVE w β σ lg sn SR (.pointer (some ⟨g3, 0, none⟩)) (.pointer (some ⟨g4, 0, none⟩)) ((W.setRow g3 σ.p.cells).setRow g4 (stateDev σ.u ra σ.u.n rc ta σ.u.sent.length tc).cells) := ⟨_, _, _, _, _, _, rfl, rfl, h.dw⟩
set_option maxHeartbeats 8000000 in
theorem soc_devices {w : World} {β : SocB} {σ : SocS} {lg sn : Value} {SR : Nat → Prop} (h : SocIs w β σ lg sn SR) (hs : σ.u.sent.length < 1000000) :
    Calls Try.prog 17 #[.pointer (some ⟨β.s, 0, none⟩)] w (DevsIs w σ) := by
  have HSN := Lib.hid hs
  have HD0 : Hid (DV w β σ lg sn SR (w.alloc (.cells dev0.cells 57)) none none none) := ⟨h.below ((Below.refl _ w).alloc (Nat.le_refl _) _), (Below.refl _ w).alloc (Nat.le_refl _) _, blk_alloc _ _, (fun _ e => nomatch e), (fun _ e => nomatch e), (fun _ _ e => nomatch e), (fun _ _ _ _ e => nomatch e), fun g hg => h.lt hg⟩
  clear h hs
  go_enter Try.func17, Try.ntmps17
  go_wp2_with fail
  obtain ⟨w0, hw0⟩ : ∃ w0, w.alloc (.cells dev0.cells 57) = w0 := ⟨_, rfl⟩
  change Code.wp _ _ _ _ (w.alloc (.cells dev0.cells 57))
  rw [hw0] at HD0 ⊢
  clear hw0
  go_cut [3, 4] (fun s3 s4 wx => DVE w β σ lg sn SR s3 s4 wx)
  case first =>
    have HD : Hid (DV w β σ lg sn SR w0.drew none none none) := HD0.out.to (Below.refl _ _).drew
    clear HD0
    refine wp_region_held_drew (S := fun wq => wq.heap[β.s]? = some (.cells (socCells β σ lg) 75 (0, 0))) (by kernel_rfl) HD.out.soc.at_ (fun hH => ?_)
    generalize w0.drew = wd at *
    refine wpAnyH_take (i := 0) (oi := ⟨some 8, _, _, _, _, _⟩) (v := ?_) rfl (by kernel_rfl) (by kernel_rfl) (by kernel_rfl) (fun _ _ _ h => h) (Or.inl ⟨by kernel_rfl, ?_⟩) hH ?_
    rotate_left 1
    · intro wq hq; have r1 : wq.cell? ⟨β.s, 1, none⟩ = some (.pointer (some ⟨β.p, 0, none⟩)) := blk_cell hq 1; have r2 : wq.cell? ⟨β.s, 2, none⟩ = some (.pointer (some ⟨β.u, 0, none⟩)) := blk_cell hq 2; clear hq; first | (go_simp; done) | (go_simp; with_reducible rfl)
    simp only [Act.put, List.setIfInBounds_toArray, List.set_cons_zero, List.set_cons_succ]
    refine wpAnyH_take (i := 1) (oi := ⟨some 9, _, _, _, _, _⟩) (v := ?_) rfl (by kernel_rfl) (by kernel_rfl) (by kernel_rfl) (fun _ _ _ h => h) (Or.inl ⟨by kernel_rfl, ?_⟩) hH ?_
    rotate_left 1
    · intro wq hq; have r1 : wq.cell? ⟨β.s, 1, none⟩ = some (.pointer (some ⟨β.p, 0, none⟩)) := blk_cell hq 1; have r2 : wq.cell? ⟨β.s, 2, none⟩ = some (.pointer (some ⟨β.u, 0, none⟩)) := blk_cell hq 2; clear hq; first | (go_simp; done) | (go_simp; with_reducible rfl)
    simp only [Act.put, List.setIfInBounds_toArray, List.set_cons_zero, List.set_cons_succ]
    refine wpAnyH_take (i := 2) (oi := ⟨some 10, _, _, _, _, _⟩) (v := ?_) rfl (by kernel_rfl) (by kernel_rfl) (by kernel_rfl) (fun _ _ _ h => h) (Or.inl ⟨by kernel_rfl, ?_⟩) hH ?_
    rotate_left 1
    · intro wq hq; have r1 : wq.cell? ⟨β.s, 1, none⟩ = some (.pointer (some ⟨β.p, 0, none⟩)) := blk_cell hq 1; have r2 : wq.cell? ⟨β.s, 2, none⟩ = some (.pointer (some ⟨β.u, 0, none⟩)) := blk_cell hq 2; clear hq; first | (go_simp; done) | (go_simp; with_reducible rfl)
    simp only [Act.put, List.setIfInBounds_toArray, List.set_cons_zero, List.set_cons_succ]
    refine wpAnyH_take (i := 3) (oi := ⟨some 11, _, _, _, _, _⟩) (v := ?_) rfl (by kernel_rfl) (by kernel_rfl) (by kernel_rfl) (fun _ _ _ h => h) (Or.inl ⟨by kernel_rfl, ?_⟩) hH ?_
    rotate_left 1
    · intro wq hq; have r1 : wq.cell? ⟨β.s, 1, none⟩ = some (.pointer (some ⟨β.p, 0, none⟩)) := blk_cell hq 1; have r2 : wq.cell? ⟨β.s, 2, none⟩ = some (.pointer (some ⟨β.u, 0, none⟩)) := blk_cell hq 2; clear hq; first | (go_simp; done) | (go_simp; with_reducible rfl)
    simp only [Act.put, List.setIfInBounds_toArray, List.set_cons_zero, List.set_cons_succ]
    refine wpAnyH_take (i := 4) (oi := ⟨some 12, _, _, _, _, _⟩) (v := ?_) rfl (by kernel_rfl) (by kernel_rfl) (by kernel_rfl) (fun _ _ _ h => h) (Or.inl ⟨by kernel_rfl, ?_⟩) hH ?_
    rotate_left 1
    · intro wq hq; have r1 : wq.cell? ⟨β.s, 1, none⟩ = some (.pointer (some ⟨β.p, 0, none⟩)) := blk_cell hq 1; have r2 : wq.cell? ⟨β.s, 2, none⟩ = some (.pointer (some ⟨β.u, 0, none⟩)) := blk_cell hq 2; clear hq; first | (go_simp; done) | (go_simp; with_reducible rfl)
    simp only [Act.put, List.setIfInBounds_toArray, List.set_cons_zero, List.set_cons_succ]
    refine wpAnyH_take (i := 6) (oi := ⟨some 14, _, _, _, _, _⟩) (v := ?_) rfl (by kernel_rfl) (by kernel_rfl) (by kernel_rfl) (fun _ _ _ h => h) (Or.inl ⟨by kernel_rfl, ?_⟩) hH ?_
    rotate_left 1
    · intro wq hq; have r1 : wq.cell? ⟨β.s, 1, none⟩ = some (.pointer (some ⟨β.p, 0, none⟩)) := blk_cell hq 1; have r2 : wq.cell? ⟨β.s, 2, none⟩ = some (.pointer (some ⟨β.u, 0, none⟩)) := blk_cell hq 2; clear hq; first | (go_simp; done) | (go_simp; with_reducible rfl)
    simp only [Act.put, List.setIfInBounds_toArray, List.set_cons_zero, List.set_cons_succ]
    refine wpAnyH_take (i := 7) (oi := ⟨some 15, _, _, _, _, _⟩) (v := ?_) rfl (by kernel_rfl) (by kernel_rfl) (by kernel_rfl) (fun _ _ _ h => h) (Or.inl ⟨by kernel_rfl, ?_⟩) hH ?_
    rotate_left 1
    · intro wq hq; have r1 : wq.cell? ⟨β.s, 1, none⟩ = some (.pointer (some ⟨β.p, 0, none⟩)) := blk_cell hq 1; have r2 : wq.cell? ⟨β.s, 2, none⟩ = some (.pointer (some ⟨β.u, 0, none⟩)) := blk_cell hq 2; clear hq; first | (go_simp; done) | (go_simp; with_reducible rfl)
    simp only [Act.put, List.setIfInBounds_toArray, List.set_cons_zero, List.set_cons_succ]
    refine wpAnyH_take (i := 8) (oi := ⟨some 16, _, _, _, _, _⟩) (v := ?_) rfl (by kernel_rfl) (by kernel_rfl) (by kernel_rfl) (fun _ _ _ h => h) (Or.inl ⟨by kernel_rfl, ?_⟩) hH ?_
    rotate_left 1
    · intro wq hq; have r1 : wq.cell? ⟨β.s, 1, none⟩ = some (.pointer (some ⟨β.p, 0, none⟩)) := blk_cell hq 1; have r2 : wq.cell? ⟨β.s, 2, none⟩ = some (.pointer (some ⟨β.u, 0, none⟩)) := blk_cell hq 2; clear hq; first | (go_simp; done) | (go_simp; with_reducible rfl)
    simp only [Act.put, List.setIfInBounds_toArray, List.set_cons_zero, List.set_cons_succ]
    refine wpAnyH_take (i := 9) (oi := ⟨some 17, _, _, _, _, _⟩) (v := ?_) rfl (by kernel_rfl) (by kernel_rfl) (by kernel_rfl) (fun _ _ _ h => h) (Or.inl ⟨by kernel_rfl, ?_⟩) hH ?_
    rotate_left 1
    · intro wq hq; have r1 : wq.cell? ⟨β.s, 1, none⟩ = some (.pointer (some ⟨β.p, 0, none⟩)) := blk_cell hq 1; have r2 : wq.cell? ⟨β.s, 2, none⟩ = some (.pointer (some ⟨β.u, 0, none⟩)) := blk_cell hq 2; clear hq; first | (go_simp; done) | (go_simp; with_reducible rfl)
    simp only [Act.put, List.setIfInBounds_toArray, List.set_cons_zero, List.set_cons_succ]
    refine wpAnyH_take (i := 10) (oi := ⟨some 18, _, _, _, _, _⟩) (v := ?_) rfl (by kernel_rfl) (by kernel_rfl) (by kernel_rfl) (fun _ _ _ h => h) (Or.inl ⟨by kernel_rfl, ?_⟩) hH ?_
    rotate_left 1
    · intro wq hq; have r1 : wq.cell? ⟨β.s, 1, none⟩ = some (.pointer (some ⟨β.p, 0, none⟩)) := blk_cell hq 1; have r2 : wq.cell? ⟨β.s, 2, none⟩ = some (.pointer (some ⟨β.u, 0, none⟩)) := blk_cell hq 2; clear hq; first | (go_simp; done) | (go_simp; with_reducible rfl)
    simp only [Act.put, List.setIfInBounds_toArray, List.set_cons_zero, List.set_cons_succ]
    refine wpAnyH_ready (rs := [5, 12, 13]) (by kernel_rfl) (by simp) (AllReadyH.cons (o := ⟨some 13, _, _, _, _, _⟩) rfl (fun K hK => ?_) (AllReadyH.cons (o := ⟨some 3, _, _, _, _, _⟩) rfl (fun K hK => ?_) (AllReadyH.cons (o := ⟨some 4, _, _, _, _, _⟩) rfl (fun K hK => ?_) AllReadyH.nil)))
    · go_simp
      refine (plic_state σ.p β.p _ HD.out.soc.p).mono ?_
      rintro e x1 ⟨rfl, hb⟩
      have HN := Lib.hid (HD.out.to hb)
      clear HD hb
      have HD := HN
      clear HN
      go_wp2_with fail
      refine hK.out _ _ HD.out.soc.at_ (fun hH => ?_)
      clear hK K
      try simp only [Act.put, List.setIfInBounds_toArray, List.set_cons_zero, List.set_cons_succ]
      refine wpAnyH_ready (rs := [11, 12, 13]) (by kernel_rfl) (by simp) (AllReadyH.cons (o := ⟨some 19, _, _, _, _, _⟩) rfl (fun K hK => ?_) (AllReadyH.cons (o := ⟨some 3, _, _, _, _, _⟩) rfl (fun K hK => ?_) (AllReadyH.cons (o := ⟨some 4, _, _, _, _, _⟩) rfl (fun K hK => ?_) AllReadyH.nil)))
      · go_simp
        refine (uart_state HD.out.soc.u HD.out.soc.ok.u HSN.out).mono ?_
        rintro e x2 ⟨ra, rc, ta, tc, rfl, hrx, htx, hap, hb⟩
        have HN := Lib.hid (HD.out.call hrx htx hap hb)
        clear HD hb hrx htx hap
        have HD := HN
        clear HN
        go_wp2_with fail
        refine hK.out _ _ HD.out.soc.at_ (fun hH => ?_)
        clear hK K
        try simp only [Act.put, List.setIfInBounds_toArray, List.set_cons_zero, List.set_cons_succ]
        refine wpAnyH_ready (rs := [12, 13]) (by kernel_rfl) (by simp) (AllReadyH.cons (o := ⟨some 3, _, _, _, _, _⟩) rfl (fun K hK => ?_) (AllReadyH.cons (o := ⟨some 4, _, _, _, _, _⟩) rfl (fun K hK => ?_) AllReadyH.nil))
        · go_simp
          have HN := Lib.hid (HD.out.alloc3)
          clear HD
          generalize x2.alloc (.cells #[.bool false, .int .u64 0, .int .u64 0, .int .u32 0, .int .u32 0, .int .u32 0, .int .u32 0, .int .u32 0, .int .u32 0, .int .u32 0, .int .u32 0, .int .u32 0, .int .u32 0, .int .u32 0, .int .u32 0, .int .u32 0, .int .u32 0, .int .u32 0, .slice none 0 0, .slice none 0 0, .int .u32 0, .bool false] 57) = x3 at *
          generalize x2.heap.size = g3 at *
          have HD := HN
          clear HN
          refine hK.out _ _ HD.out.soc.at_ (fun hH => ?_)
          clear hK K
          try simp only [Act.put, List.setIfInBounds_toArray, List.set_cons_zero, List.set_cons_succ]
          refine wpAnyH_ready (rs := [13]) (by kernel_rfl) (by simp) (AllReadyH.cons (o := ⟨some 4, _, _, _, _, _⟩) rfl (fun K hK => ?_) AllReadyH.nil)
          go_simp
          have HN := Lib.hid (HD.out.alloc4)
          clear HD
          generalize x3.alloc (.cells #[.bool false, .int .u64 0, .int .u64 0, .int .u32 0, .int .u32 0, .int .u32 0, .int .u32 0, .int .u32 0, .int .u32 0, .int .u32 0, .int .u32 0, .int .u32 0, .int .u32 0, .int .u32 0, .int .u32 0, .int .u32 0, .int .u32 0, .int .u32 0, .slice none 0 0, .slice none 0 0, .int .u32 0, .bool false] 57) = x4 at *
          generalize x3.heap.size = g4 at *
          have HD := HN
          clear HN
          refine hK.out _ _ HD.out.soc.at_ (fun hH => ?_)
          clear hK K
          try simp only [Act.put, List.setIfInBounds_toArray, List.set_cons_zero, List.set_cons_succ]
          refine wpAnyH_ready (rs := [14]) (by kernel_rfl) (by simp) (AllReadyH.cons (o := ⟨none, _, _, _, _, _⟩) rfl (fun K hK => ?_) AllReadyH.nil)
          have hr3 : rowIs x4 g3 22 = true := rowIs_of (HD.out.g3 _ rfl).2
          have hr4 : rowIs x4 g4 22 = true := rowIs_of (HD.out.g4 _ rfl).2
          have hn34 : g4 ≠ g3 := fun e => HD.out.ne _ _ rfl rfl e.symm
          have HZ := Lib.hid (HD.out.fin rfl rfl rfl)
          go_simp
          refine hK.out _ _ HZ.out.soc1.at_ (fun hH => ?_)
          clear hK K
          try simp only [Act.put, List.setIfInBounds_toArray, List.set_cons_zero, List.set_cons_succ]
          refine wpAnyH_ready (rs := [15]) (by kernel_rfl) (by simp) (AllReadyH.cons (o := ⟨none, _, _, _, _, _⟩) rfl (fun K hK => ?_) AllReadyH.nil)
          go_simp
          refine hK.out _ _ HZ.out.soc2.at_ (fun hH => ?_)
          clear hK K
          try simp only [Act.put, List.setIfInBounds_toArray, List.set_cons_zero, List.set_cons_succ]
          refine wpAnyH_done (by kernel_rfl) ?_ _
          clear hH
          go_wp2_with fail
          go_meet
          exact HZ.out.dve
        · go_simp
          have HN := Lib.hid (HD.out.alloc4)
          clear HD
          generalize x2.alloc (.cells #[.bool false, .int .u64 0, .int .u64 0, .int .u32 0, .int .u32 0, .int .u32 0, .int .u32 0, .int .u32 0, .int .u32 0, .int .u32 0, .int .u32 0, .int .u32 0, .int .u32 0, .int .u32 0, .int .u32 0, .int .u32 0, .int .u32 0, .int .u32 0, .slice none 0 0, .slice none 0 0, .int .u32 0, .bool false] 57) = x7 at *
          generalize x2.heap.size = g4 at *
          have HD := HN
          clear HN
          refine hK.out _ _ HD.out.soc.at_ (fun hH => ?_)
          clear hK K
          try simp only [Act.put, List.setIfInBounds_toArray, List.set_cons_zero, List.set_cons_succ]
          refine wpAnyH_ready (rs := [12]) (by kernel_rfl) (by simp) (AllReadyH.cons (o := ⟨some 3, _, _, _, _, _⟩) rfl (fun K hK => ?_) AllReadyH.nil)
          go_simp
          have HN := Lib.hid (HD.out.alloc3)
          clear HD
          generalize x7.alloc (.cells #[.bool false, .int .u64 0, .int .u64 0, .int .u32 0, .int .u32 0, .int .u32 0, .int .u32 0, .int .u32 0, .int .u32 0, .int .u32 0, .int .u32 0, .int .u32 0, .int .u32 0, .int .u32 0, .int .u32 0, .int .u32 0, .int .u32 0, .int .u32 0, .slice none 0 0, .slice none 0 0, .int .u32 0, .bool false] 57) = x8 at *
          generalize x7.heap.size = g3 at *
          have HD := HN
          clear HN
          refine hK.out _ _ HD.out.soc.at_ (fun hH => ?_)
          clear hK K
          try simp only [Act.put, List.setIfInBounds_toArray, List.set_cons_zero, List.set_cons_succ]
          refine wpAnyH_ready (rs := [14]) (by kernel_rfl) (by simp) (AllReadyH.cons (o := ⟨none, _, _, _, _, _⟩) rfl (fun K hK => ?_) AllReadyH.nil)
          have hr3 : rowIs x8 g3 22 = true := rowIs_of (HD.out.g3 _ rfl).2
          have hr4 : rowIs x8 g4 22 = true := rowIs_of (HD.out.g4 _ rfl).2
          have hn34 : g4 ≠ g3 := fun e => HD.out.ne _ _ rfl rfl e.symm
          have HZ := Lib.hid (HD.out.fin rfl rfl rfl)
          go_simp
          refine hK.out _ _ HZ.out.soc1.at_ (fun hH => ?_)
          clear hK K
          try simp only [Act.put, List.setIfInBounds_toArray, List.set_cons_zero, List.set_cons_succ]
          refine wpAnyH_ready (rs := [15]) (by kernel_rfl) (by simp) (AllReadyH.cons (o := ⟨none, _, _, _, _, _⟩) rfl (fun K hK => ?_) AllReadyH.nil)
          go_simp
          refine hK.out _ _ HZ.out.soc2.at_ (fun hH => ?_)
          clear hK K
          try simp only [Act.put, List.setIfInBounds_toArray, List.set_cons_zero, List.set_cons_succ]
          refine wpAnyH_done (by kernel_rfl) ?_ _
          clear hH
          go_wp2_with fail
          go_meet
          exact HZ.out.dve
      · go_simp
        have HN := Lib.hid (HD.out.alloc3)
        clear HD
        generalize x1.alloc (.cells #[.bool false, .int .u64 0, .int .u64 0, .int .u32 0, .int .u32 0, .int .u32 0, .int .u32 0, .int .u32 0, .int .u32 0, .int .u32 0, .int .u32 0, .int .u32 0, .int .u32 0, .int .u32 0, .int .u32 0, .int .u32 0, .int .u32 0, .int .u32 0, .slice none 0 0, .slice none 0 0, .int .u32 0, .bool false] 57) = x11 at *
        generalize x1.heap.size = g3 at *
        have HD := HN
        clear HN
        refine hK.out _ _ HD.out.soc.at_ (fun hH => ?_)
        clear hK K
        try simp only [Act.put, List.setIfInBounds_toArray, List.set_cons_zero, List.set_cons_succ]
        refine wpAnyH_ready (rs := [11, 13]) (by kernel_rfl) (by simp) (AllReadyH.cons (o := ⟨some 19, _, _, _, _, _⟩) rfl (fun K hK => ?_) (AllReadyH.cons (o := ⟨some 4, _, _, _, _, _⟩) rfl (fun K hK => ?_) AllReadyH.nil))
        · go_simp
          refine (uart_state HD.out.soc.u HD.out.soc.ok.u HSN.out).mono ?_
          rintro e x12 ⟨ra, rc, ta, tc, rfl, hrx, htx, hap, hb⟩
          have HN := Lib.hid (HD.out.call hrx htx hap hb)
          clear HD hb hrx htx hap
          have HD := HN
          clear HN
          go_wp2_with fail
          refine hK.out _ _ HD.out.soc.at_ (fun hH => ?_)
          clear hK K
          try simp only [Act.put, List.setIfInBounds_toArray, List.set_cons_zero, List.set_cons_succ]
          refine wpAnyH_ready (rs := [13]) (by kernel_rfl) (by simp) (AllReadyH.cons (o := ⟨some 4, _, _, _, _, _⟩) rfl (fun K hK => ?_) AllReadyH.nil)
          go_simp
          have HN := Lib.hid (HD.out.alloc4)
          clear HD
          generalize x12.alloc (.cells #[.bool false, .int .u64 0, .int .u64 0, .int .u32 0, .int .u32 0, .int .u32 0, .int .u32 0, .int .u32 0, .int .u32 0, .int .u32 0, .int .u32 0, .int .u32 0, .int .u32 0, .int .u32 0, .int .u32 0, .int .u32 0, .int .u32 0, .int .u32 0, .slice none 0 0, .slice none 0 0, .int .u32 0, .bool false] 57) = x13 at *
          generalize x12.heap.size = g4 at *
          have HD := HN
          clear HN
          refine hK.out _ _ HD.out.soc.at_ (fun hH => ?_)
          clear hK K
          try simp only [Act.put, List.setIfInBounds_toArray, List.set_cons_zero, List.set_cons_succ]
          refine wpAnyH_ready (rs := [14]) (by kernel_rfl) (by simp) (AllReadyH.cons (o := ⟨none, _, _, _, _, _⟩) rfl (fun K hK => ?_) AllReadyH.nil)
          have hr3 : rowIs x13 g3 22 = true := rowIs_of (HD.out.g3 _ rfl).2
          have hr4 : rowIs x13 g4 22 = true := rowIs_of (HD.out.g4 _ rfl).2
          have hn34 : g4 ≠ g3 := fun e => HD.out.ne _ _ rfl rfl e.symm
          have HZ := Lib.hid (HD.out.fin rfl rfl rfl)
          go_simp
          refine hK.out _ _ HZ.out.soc1.at_ (fun hH => ?_)
          clear hK K
          try simp only [Act.put, List.setIfInBounds_toArray, List.set_cons_zero, List.set_cons_succ]
          refine wpAnyH_ready (rs := [15]) (by kernel_rfl) (by simp) (AllReadyH.cons (o := ⟨none, _, _, _, _, _⟩) rfl (fun K hK => ?_) AllReadyH.nil)
          go_simp
          refine hK.out _ _ HZ.out.soc2.at_ (fun hH => ?_)
          clear hK K
          try simp only [Act.put, List.setIfInBounds_toArray, List.set_cons_zero, List.set_cons_succ]
          refine wpAnyH_done (by kernel_rfl) ?_ _
          clear hH
          go_wp2_with fail
          go_meet
          exact HZ.out.dve
        · go_simp
          have HN := Lib.hid (HD.out.alloc4)
          clear HD
          generalize x11.alloc (.cells #[.bool false, .int .u64 0, .int .u64 0, .int .u32 0, .int .u32 0, .int .u32 0, .int .u32 0, .int .u32 0, .int .u32 0, .int .u32 0, .int .u32 0, .int .u32 0, .int .u32 0, .int .u32 0, .int .u32 0, .int .u32 0, .int .u32 0, .int .u32 0, .slice none 0 0, .slice none 0 0, .int .u32 0, .bool false] 57) = x16 at *
          generalize x11.heap.size = g4 at *
          have HD := HN
          clear HN
          refine hK.out _ _ HD.out.soc.at_ (fun hH => ?_)
          clear hK K
          try simp only [Act.put, List.setIfInBounds_toArray, List.set_cons_zero, List.set_cons_succ]
          refine wpAnyH_ready (rs := [11]) (by kernel_rfl) (by simp) (AllReadyH.cons (o := ⟨some 19, _, _, _, _, _⟩) rfl (fun K hK => ?_) AllReadyH.nil)
          go_simp
          refine (uart_state HD.out.soc.u HD.out.soc.ok.u HSN.out).mono ?_
          rintro e x17 ⟨ra, rc, ta, tc, rfl, hrx, htx, hap, hb⟩
          have HN := Lib.hid (HD.out.call hrx htx hap hb)
          clear HD hb hrx htx hap
          have HD := HN
          clear HN
          go_wp2_with fail
          refine hK.out _ _ HD.out.soc.at_ (fun hH => ?_)
          clear hK K
          try simp only [Act.put, List.setIfInBounds_toArray, List.set_cons_zero, List.set_cons_succ]
          refine wpAnyH_ready (rs := [14]) (by kernel_rfl) (by simp) (AllReadyH.cons (o := ⟨none, _, _, _, _, _⟩) rfl (fun K hK => ?_) AllReadyH.nil)
          have hr3 : rowIs x17 g3 22 = true := rowIs_of (HD.out.g3 _ rfl).2
          have hr4 : rowIs x17 g4 22 = true := rowIs_of (HD.out.g4 _ rfl).2
          have hn34 : g4 ≠ g3 := fun e => HD.out.ne _ _ rfl rfl e.symm
          have HZ := Lib.hid (HD.out.fin rfl rfl rfl)
          go_simp
          refine hK.out _ _ HZ.out.soc1.at_ (fun hH => ?_)
          clear hK K
          try simp only [Act.put, List.setIfInBounds_toArray, List.set_cons_zero, List.set_cons_succ]
          refine wpAnyH_ready (rs := [15]) (by kernel_rfl) (by simp) (AllReadyH.cons (o := ⟨none, _, _, _, _, _⟩) rfl (fun K hK => ?_) AllReadyH.nil)
          go_simp
          refine hK.out _ _ HZ.out.soc2.at_ (fun hH => ?_)
          clear hK K
          try simp only [Act.put, List.setIfInBounds_toArray, List.set_cons_zero, List.set_cons_succ]
          refine wpAnyH_done (by kernel_rfl) ?_ _
          clear hH
          go_wp2_with fail
          go_meet
          exact HZ.out.dve
      · go_simp
        have HN := Lib.hid (HD.out.alloc4)
        clear HD
        generalize x1.alloc (.cells #[.bool false, .int .u64 0, .int .u64 0, .int .u32 0, .int .u32 0, .int .u32 0, .int .u32 0, .int .u32 0, .int .u32 0, .int .u32 0, .int .u32 0, .int .u32 0, .int .u32 0, .int .u32 0, .int .u32 0, .int .u32 0, .int .u32 0, .int .u32 0, .slice none 0 0, .slice none 0 0, .int .u32 0, .bool false] 57) = x20 at *
        generalize x1.heap.size = g4 at *
        have HD := HN
        clear HN
        refine hK.out _ _ HD.out.soc.at_ (fun hH => ?_)
        clear hK K
        try simp only [Act.put, List.setIfInBounds_toArray, List.set_cons_zero, List.set_cons_succ]
        refine wpAnyH_ready (rs := [11, 12]) (by kernel_rfl) (by simp) (AllReadyH.cons (o := ⟨some 19, _, _, _, _, _⟩) rfl (fun K hK => ?_) (AllReadyH.cons (o := ⟨some 3, _, _, _, _, _⟩) rfl (fun K hK => ?_) AllReadyH.nil))
        · go_simp
          refine (uart_state HD.out.soc.u HD.out.soc.ok.u HSN.out).mono ?_
          rintro e x21 ⟨ra, rc, ta, tc, rfl, hrx, htx, hap, hb⟩
          have HN := Lib.hid (HD.out.call hrx htx hap hb)
          clear HD hb hrx htx hap
          have HD := HN
          clear HN
          go_wp2_with fail
          refine hK.out _ _ HD.out.soc.at_ (fun hH => ?_)
          clear hK K
          try simp only [Act.put, List.setIfInBounds_toArray, List.set_cons_zero, List.set_cons_succ]
          refine wpAnyH_ready (rs := [12]) (by kernel_rfl) (by simp) (AllReadyH.cons (o := ⟨some 3, _, _, _, _, _⟩) rfl (fun K hK => ?_) AllReadyH.nil)
          go_simp
          have HN := Lib.hid (HD.out.alloc3)
          clear HD
          generalize x21.alloc (.cells #[.bool false, .int .u64 0, .int .u64 0, .int .u32 0, .int .u32 0, .int .u32 0, .int .u32 0, .int .u32 0, .int .u32 0, .int .u32 0, .int .u32 0, .int .u32 0, .int .u32 0, .int .u32 0, .int .u32 0, .int .u32 0, .int .u32 0, .int .u32 0, .slice none 0 0, .slice none 0 0, .int .u32 0, .bool false] 57) = x22 at *
          generalize x21.heap.size = g3 at *
          have HD := HN
          clear HN
          refine hK.out _ _ HD.out.soc.at_ (fun hH => ?_)
          clear hK K
          try simp only [Act.put, List.setIfInBounds_toArray, List.set_cons_zero, List.set_cons_succ]
          refine wpAnyH_ready (rs := [14]) (by kernel_rfl) (by simp) (AllReadyH.cons (o := ⟨none, _, _, _, _, _⟩) rfl (fun K hK => ?_) AllReadyH.nil)
          have hr3 : rowIs x22 g3 22 = true := rowIs_of (HD.out.g3 _ rfl).2
          have hr4 : rowIs x22 g4 22 = true := rowIs_of (HD.out.g4 _ rfl).2
          have hn34 : g4 ≠ g3 := fun e => HD.out.ne _ _ rfl rfl e.symm
          have HZ := Lib.hid (HD.out.fin rfl rfl rfl)
          go_simp
          refine hK.out _ _ HZ.out.soc1.at_ (fun hH => ?_)
          clear hK K
          try simp only [Act.put, List.setIfInBounds_toArray, List.set_cons_zero, List.set_cons_succ]
          refine wpAnyH_ready (rs := [15]) (by kernel_rfl) (by simp) (AllReadyH.cons (o := ⟨none, _, _, _, _, _⟩) rfl (fun K hK => ?_) AllReadyH.nil)
          go_simp
          refine hK.out _ _ HZ.out.soc2.at_ (fun hH => ?_)
          clear hK K
          try simp only [Act.put, List.setIfInBounds_toArray, List.set_cons_zero, List.set_cons_succ]
          refine wpAnyH_done (by kernel_rfl) ?_ _
          clear hH
          go_wp2_with fail
          go_meet
          exact HZ.out.dve
        · go_simp
          have HN := Lib.hid (HD.out.alloc3)
          clear HD
          generalize x20.alloc (.cells #[.bool false, .int .u64 0, .int .u64 0, .int .u32 0, .int .u32 0, .int .u32 0, .int .u32 0, .int .u32 0, .int .u32 0, .int .u32 0, .int .u32 0, .int .u32 0, .int .u32 0, .int .u32 0, .int .u32 0, .int .u32 0, .int .u32 0, .int .u32 0, .slice none 0 0, .slice none 0 0, .int .u32 0, .bool false] 57) = x25 at *
          generalize x20.heap.size = g3 at *
          have HD := HN
          clear HN
          refine hK.out _ _ HD.out.soc.at_ (fun hH => ?_)
          clear hK K
          try simp only [Act.put, List.setIfInBounds_toArray, List.set_cons_zero, List.set_cons_succ]
          refine wpAnyH_ready (rs := [11]) (by kernel_rfl) (by simp) (AllReadyH.cons (o := ⟨some 19, _, _, _, _, _⟩) rfl (fun K hK => ?_) AllReadyH.nil)
          go_simp
          refine (uart_state HD.out.soc.u HD.out.soc.ok.u HSN.out).mono ?_
          rintro e x26 ⟨ra, rc, ta, tc, rfl, hrx, htx, hap, hb⟩
          have HN := Lib.hid (HD.out.call hrx htx hap hb)
          clear HD hb hrx htx hap
          have HD := HN
          clear HN
          go_wp2_with fail
          refine hK.out _ _ HD.out.soc.at_ (fun hH => ?_)
          clear hK K
          try simp only [Act.put, List.setIfInBounds_toArray, List.set_cons_zero, List.set_cons_succ]
          refine wpAnyH_ready (rs := [14]) (by kernel_rfl) (by simp) (AllReadyH.cons (o := ⟨none, _, _, _, _, _⟩) rfl (fun K hK => ?_) AllReadyH.nil)
          have hr3 : rowIs x26 g3 22 = true := rowIs_of (HD.out.g3 _ rfl).2
          have hr4 : rowIs x26 g4 22 = true := rowIs_of (HD.out.g4 _ rfl).2
          have hn34 : g4 ≠ g3 := fun e => HD.out.ne _ _ rfl rfl e.symm
          have HZ := Lib.hid (HD.out.fin rfl rfl rfl)
          go_simp
          refine hK.out _ _ HZ.out.soc1.at_ (fun hH => ?_)
          clear hK K
          try simp only [Act.put, List.setIfInBounds_toArray, List.set_cons_zero, List.set_cons_succ]
          refine wpAnyH_ready (rs := [15]) (by kernel_rfl) (by simp) (AllReadyH.cons (o := ⟨none, _, _, _, _, _⟩) rfl (fun K hK => ?_) AllReadyH.nil)
          go_simp
          refine hK.out _ _ HZ.out.soc2.at_ (fun hH => ?_)
          clear hK K
          try simp only [Act.put, List.setIfInBounds_toArray, List.set_cons_zero, List.set_cons_succ]
          refine wpAnyH_done (by kernel_rfl) ?_ _
          clear hH
          go_wp2_with fail
          go_meet
          exact HZ.out.dve
    · go_simp
      have HN := Lib.hid (HD.out.alloc3)
      clear HD
      generalize wd.alloc (.cells #[.bool false, .int .u64 0, .int .u64 0, .int .u32 0, .int .u32 0, .int .u32 0, .int .u32 0, .int .u32 0, .int .u32 0, .int .u32 0, .int .u32 0, .int .u32 0, .int .u32 0, .int .u32 0, .int .u32 0, .int .u32 0, .int .u32 0, .int .u32 0, .slice none 0 0, .slice none 0 0, .int .u32 0, .bool false] 57) = x29 at *
      generalize wd.heap.size = g3 at *
      have HD := HN
      clear HN
      refine hK.out _ _ HD.out.soc.at_ (fun hH => ?_)
      clear hK K
      try simp only [Act.put, List.setIfInBounds_toArray, List.set_cons_zero, List.set_cons_succ]
      refine wpAnyH_ready (rs := [5, 13]) (by kernel_rfl) (by simp) (AllReadyH.cons (o := ⟨some 13, _, _, _, _, _⟩) rfl (fun K hK => ?_) (AllReadyH.cons (o := ⟨some 4, _, _, _, _, _⟩) rfl (fun K hK => ?_) AllReadyH.nil))
      · go_simp
        refine (plic_state σ.p β.p _ HD.out.soc.p).mono ?_
        rintro e x30 ⟨rfl, hb⟩
        have HN := Lib.hid (HD.out.to hb)
        clear HD hb
        have HD := HN
        clear HN
        go_wp2_with fail
        refine hK.out _ _ HD.out.soc.at_ (fun hH => ?_)
        clear hK K
        try simp only [Act.put, List.setIfInBounds_toArray, List.set_cons_zero, List.set_cons_succ]
        refine wpAnyH_ready (rs := [11, 13]) (by kernel_rfl) (by simp) (AllReadyH.cons (o := ⟨some 19, _, _, _, _, _⟩) rfl (fun K hK => ?_) (AllReadyH.cons (o := ⟨some 4, _, _, _, _, _⟩) rfl (fun K hK => ?_) AllReadyH.nil))
        · go_simp
          refine (uart_state HD.out.soc.u HD.out.soc.ok.u HSN.out).mono ?_
          rintro e x31 ⟨ra, rc, ta, tc, rfl, hrx, htx, hap, hb⟩
          have HN := Lib.hid (HD.out.call hrx htx hap hb)
          clear HD hb hrx htx hap
          have HD := HN
          clear HN
          go_wp2_with fail
          refine hK.out _ _ HD.out.soc.at_ (fun hH => ?_)
          clear hK K
          try simp only [Act.put, List.setIfInBounds_toArray, List.set_cons_zero, List.set_cons_succ]
          refine wpAnyH_ready (rs := [13]) (by kernel_rfl) (by simp) (AllReadyH.cons (o := ⟨some 4, _, _, _, _, _⟩) rfl (fun K hK => ?_) AllReadyH.nil)
          go_simp
          have HN := Lib.hid (HD.out.alloc4)
          clear HD
          generalize x31.alloc (.cells #[.bool false, .int .u64 0, .int .u64 0, .int .u32 0, .int .u32 0, .int .u32 0, .int .u32 0, .int .u32 0, .int .u32 0, .int .u32 0, .int .u32 0, .int .u32 0, .int .u32 0, .int .u32 0, .int .u32 0, .int .u32 0, .int .u32 0, .int .u32 0, .slice none 0 0, .slice none 0 0, .int .u32 0, .bool false] 57) = x32 at *
          generalize x31.heap.size = g4 at *
          have HD := HN
          clear HN
          refine hK.out _ _ HD.out.soc.at_ (fun hH => ?_)
          clear hK K
          try simp only [Act.put, List.setIfInBounds_toArray, List.set_cons_zero, List.set_cons_succ]
          refine wpAnyH_ready (rs := [14]) (by kernel_rfl) (by simp) (AllReadyH.cons (o := ⟨none, _, _, _, _, _⟩) rfl (fun K hK => ?_) AllReadyH.nil)
          have hr3 : rowIs x32 g3 22 = true := rowIs_of (HD.out.g3 _ rfl).2
          have hr4 : rowIs x32 g4 22 = true := rowIs_of (HD.out.g4 _ rfl).2
          have hn34 : g4 ≠ g3 := fun e => HD.out.ne _ _ rfl rfl e.symm
          have HZ := Lib.hid (HD.out.fin rfl rfl rfl)
          go_simp
          refine hK.out _ _ HZ.out.soc1.at_ (fun hH => ?_)
          clear hK K
          try simp only [Act.put, List.setIfInBounds_toArray, List.set_cons_zero, List.set_cons_succ]
          refine wpAnyH_ready (rs := [15]) (by kernel_rfl) (by simp) (AllReadyH.cons (o := ⟨none, _, _, _, _, _⟩) rfl (fun K hK => ?_) AllReadyH.nil)
          go_simp
          refine hK.out _ _ HZ.out.soc2.at_ (fun hH => ?_)
          clear hK K
          try simp only [Act.put, List.setIfInBounds_toArray, List.set_cons_zero, List.set_cons_succ]
          refine wpAnyH_done (by kernel_rfl) ?_ _
          clear hH
          go_wp2_with fail
          go_meet
          exact HZ.out.dve
        · go_simp
          have HN := Lib.hid (HD.out.alloc4)
          clear HD
          generalize x30.alloc (.cells #[.bool false, .int .u64 0, .int .u64 0, .int .u32 0, .int .u32 0, .int .u32 0, .int .u32 0, .int .u32 0, .int .u32 0, .int .u32 0, .int .u32 0, .int .u32 0, .int .u32 0, .int .u32 0, .int .u32 0, .int .u32 0, .int .u32 0, .int .u32 0, .slice none 0 0, .slice none 0 0, .int .u32 0, .bool false] 57) = x35 at *
          generalize x30.heap.size = g4 at *
          have HD := HN
          clear HN
          refine hK.out _ _ HD.out.soc.at_ (fun hH => ?_)
          clear hK K
          try simp only [Act.put, List.setIfInBounds_toArray, List.set_cons_zero, List.set_cons_succ]
          refine wpAnyH_ready (rs := [11]) (by kernel_rfl) (by simp) (AllReadyH.cons (o := ⟨some 19, _, _, _, _, _⟩) rfl (fun K hK => ?_) AllReadyH.nil)
          go_simp
          refine (uart_state HD.out.soc.u HD.out.soc.ok.u HSN.out).mono ?_
          rintro e x36 ⟨ra, rc, ta, tc, rfl, hrx, htx, hap, hb⟩
          have HN := Lib.hid (HD.out.call hrx htx hap hb)
          clear HD hb hrx htx hap
          have HD := HN
          clear HN
          go_wp2_with fail
          refine hK.out _ _ HD.out.soc.at_ (fun hH => ?_)
          clear hK K
          try simp only [Act.put, List.setIfInBounds_toArray, List.set_cons_zero, List.set_cons_succ]
          refine wpAnyH_ready (rs := [14]) (by kernel_rfl) (by simp) (AllReadyH.cons (o := ⟨none, _, _, _, _, _⟩) rfl (fun K hK => ?_) AllReadyH.nil)
          have hr3 : rowIs x36 g3 22 = true := rowIs_of (HD.out.g3 _ rfl).2
          have hr4 : rowIs x36 g4 22 = true := rowIs_of (HD.out.g4 _ rfl).2
          have hn34 : g4 ≠ g3 := fun e => HD.out.ne _ _ rfl rfl e.symm
          have HZ := Lib.hid (HD.out.fin rfl rfl rfl)
          go_simp
          refine hK.out _ _ HZ.out.soc1.at_ (fun hH => ?_)
          clear hK K
          try simp only [Act.put, List.setIfInBounds_toArray, List.set_cons_zero, List.set_cons_succ]
          refine wpAnyH_ready (rs := [15]) (by kernel_rfl) (by simp) (AllReadyH.cons (o := ⟨none, _, _, _, _, _⟩) rfl (fun K hK => ?_) AllReadyH.nil)
          go_simp
          refine hK.out _ _ HZ.out.soc2.at_ (fun hH => ?_)
          clear hK K
          try simp only [Act.put, List.setIfInBounds_toArray, List.set_cons_zero, List.set_cons_succ]
          refine wpAnyH_done (by kernel_rfl) ?_ _
          clear hH
          go_wp2_with fail
          go_meet
          exact HZ.out.dve
      · go_simp
        have HN := Lib.hid (HD.out.alloc4)
        clear HD
        generalize x29.alloc (.cells #[.bool false, .int .u64 0, .int .u64 0, .int .u32 0, .int .u32 0, .int .u32 0, .int .u32 0, .int .u32 0, .int .u32 0, .int .u32 0, .int .u32 0, .int .u32 0, .int .u32 0, .int .u32 0, .int .u32 0, .int .u32 0, .int .u32 0, .int .u32 0, .slice none 0 0, .slice none 0 0, .int .u32 0, .bool false] 57) = x39 at *
        generalize x29.heap.size = g4 at *
        have HD := HN
        clear HN
        refine hK.out _ _ HD.out.soc.at_ (fun hH => ?_)
        clear hK K
        try simp only [Act.put, List.setIfInBounds_toArray, List.set_cons_zero, List.set_cons_succ]
        refine wpAnyH_ready (rs := [5]) (by kernel_rfl) (by simp) (AllReadyH.cons (o := ⟨some 13, _, _, _, _, _⟩) rfl (fun K hK => ?_) AllReadyH.nil)
        go_simp
        refine (plic_state σ.p β.p _ HD.out.soc.p).mono ?_
        rintro e x40 ⟨rfl, hb⟩
        have HN := Lib.hid (HD.out.to hb)
        clear HD hb
        have HD := HN
        clear HN
        go_wp2_with fail
        refine hK.out _ _ HD.out.soc.at_ (fun hH => ?_)
        clear hK K
        try simp only [Act.put, List.setIfInBounds_toArray, List.set_cons_zero, List.set_cons_succ]
        refine wpAnyH_ready (rs := [11]) (by kernel_rfl) (by simp) (AllReadyH.cons (o := ⟨some 19, _, _, _, _, _⟩) rfl (fun K hK => ?_) AllReadyH.nil)
        go_simp
        refine (uart_state HD.out.soc.u HD.out.soc.ok.u HSN.out).mono ?_
        rintro e x41 ⟨ra, rc, ta, tc, rfl, hrx, htx, hap, hb⟩
        have HN := Lib.hid (HD.out.call hrx htx hap hb)
        clear HD hb hrx htx hap
        have HD := HN
        clear HN
        go_wp2_with fail
        refine hK.out _ _ HD.out.soc.at_ (fun hH => ?_)
        clear hK K
        try simp only [Act.put, List.setIfInBounds_toArray, List.set_cons_zero, List.set_cons_succ]
        refine wpAnyH_ready (rs := [14]) (by kernel_rfl) (by simp) (AllReadyH.cons (o := ⟨none, _, _, _, _, _⟩) rfl (fun K hK => ?_) AllReadyH.nil)
        have hr3 : rowIs x41 g3 22 = true := rowIs_of (HD.out.g3 _ rfl).2
        have hr4 : rowIs x41 g4 22 = true := rowIs_of (HD.out.g4 _ rfl).2
        have hn34 : g4 ≠ g3 := fun e => HD.out.ne _ _ rfl rfl e.symm
        have HZ := Lib.hid (HD.out.fin rfl rfl rfl)
        go_simp
        refine hK.out _ _ HZ.out.soc1.at_ (fun hH => ?_)
        clear hK K
        try simp only [Act.put, List.setIfInBounds_toArray, List.set_cons_zero, List.set_cons_succ]
        refine wpAnyH_ready (rs := [15]) (by kernel_rfl) (by simp) (AllReadyH.cons (o := ⟨none, _, _, _, _, _⟩) rfl (fun K hK => ?_) AllReadyH.nil)
        go_simp
        refine hK.out _ _ HZ.out.soc2.at_ (fun hH => ?_)
        clear hK K
        try simp only [Act.put, List.setIfInBounds_toArray, List.set_cons_zero, List.set_cons_succ]
        refine wpAnyH_done (by kernel_rfl) ?_ _
        clear hH
        go_wp2_with fail
        go_meet
        exact HZ.out.dve
    · go_simp
      have HN := Lib.hid (HD.out.alloc4)
      clear HD
      generalize wd.alloc (.cells #[.bool false, .int .u64 0, .int .u64 0, .int .u32 0, .int .u32 0, .int .u32 0, .int .u32 0, .int .u32 0, .int .u32 0, .int .u32 0, .int .u32 0, .int .u32 0, .int .u32 0, .int .u32 0, .int .u32 0, .int .u32 0, .int .u32 0, .int .u32 0, .slice none 0 0, .slice none 0 0, .int .u32 0, .bool false] 57) = x44 at *
      generalize wd.heap.size = g4 at *
      have HD := HN
      clear HN
      refine hK.out _ _ HD.out.soc.at_ (fun hH => ?_)
      clear hK K
      try simp only [Act.put, List.setIfInBounds_toArray, List.set_cons_zero, List.set_cons_succ]
      refine wpAnyH_ready (rs := [5, 12]) (by kernel_rfl) (by simp) (AllReadyH.cons (o := ⟨some 13, _, _, _, _, _⟩) rfl (fun K hK => ?_) (AllReadyH.cons (o := ⟨some 3, _, _, _, _, _⟩) rfl (fun K hK => ?_) AllReadyH.nil))
      · go_simp
        refine (plic_state σ.p β.p _ HD.out.soc.p).mono ?_
        rintro e x45 ⟨rfl, hb⟩
        have HN := Lib.hid (HD.out.to hb)
        clear HD hb
        have HD := HN
        clear HN
        go_wp2_with fail
        refine hK.out _ _ HD.out.soc.at_ (fun hH => ?_)
        clear hK K
        try simp only [Act.put, List.setIfInBounds_toArray, List.set_cons_zero, List.set_cons_succ]
        refine wpAnyH_ready (rs := [11, 12]) (by kernel_rfl) (by simp) (AllReadyH.cons (o := ⟨some 19, _, _, _, _, _⟩) rfl (fun K hK => ?_) (AllReadyH.cons (o := ⟨some 3, _, _, _, _, _⟩) rfl (fun K hK => ?_) AllReadyH.nil))
        · go_simp
          refine (uart_state HD.out.soc.u HD.out.soc.ok.u HSN.out).mono ?_
          rintro e x46 ⟨ra, rc, ta, tc, rfl, hrx, htx, hap, hb⟩
          have HN := Lib.hid (HD.out.call hrx htx hap hb)
          clear HD hb hrx htx hap
          have HD := HN
          clear HN
          go_wp2_with fail
          refine hK.out _ _ HD.out.soc.at_ (fun hH => ?_)
          clear hK K
          try simp only [Act.put, List.setIfInBounds_toArray, List.set_cons_zero, List.set_cons_succ]
          refine wpAnyH_ready (rs := [12]) (by kernel_rfl) (by simp) (AllReadyH.cons (o := ⟨some 3, _, _, _, _, _⟩) rfl (fun K hK => ?_) AllReadyH.nil)
          go_simp
          have HN := Lib.hid (HD.out.alloc3)
          clear HD
          generalize x46.alloc (.cells #[.bool false, .int .u64 0, .int .u64 0, .int .u32 0, .int .u32 0, .int .u32 0, .int .u32 0, .int .u32 0, .int .u32 0, .int .u32 0, .int .u32 0, .int .u32 0, .int .u32 0, .int .u32 0, .int .u32 0, .int .u32 0, .int .u32 0, .int .u32 0, .slice none 0 0, .slice none 0 0, .int .u32 0, .bool false] 57) = x47 at *
          generalize x46.heap.size = g3 at *
          have HD := HN
          clear HN
          refine hK.out _ _ HD.out.soc.at_ (fun hH => ?_)
          clear hK K
          try simp only [Act.put, List.setIfInBounds_toArray, List.set_cons_zero, List.set_cons_succ]
          refine wpAnyH_ready (rs := [14]) (by kernel_rfl) (by simp) (AllReadyH.cons (o := ⟨none, _, _, _, _, _⟩) rfl (fun K hK => ?_) AllReadyH.nil)
          have hr3 : rowIs x47 g3 22 = true := rowIs_of (HD.out.g3 _ rfl).2
          have hr4 : rowIs x47 g4 22 = true := rowIs_of (HD.out.g4 _ rfl).2
          have hn34 : g4 ≠ g3 := fun e => HD.out.ne _ _ rfl rfl e.symm
          have HZ := Lib.hid (HD.out.fin rfl rfl rfl)
          go_simp
          refine hK.out _ _ HZ.out.soc1.at_ (fun hH => ?_)
          clear hK K
          try simp only [Act.put, List.setIfInBounds_toArray, List.set_cons_zero, List.set_cons_succ]
          refine wpAnyH_ready (rs := [15]) (by kernel_rfl) (by simp) (AllReadyH.cons (o := ⟨none, _, _, _, _, _⟩) rfl (fun K hK => ?_) AllReadyH.nil)
          go_simp
          refine hK.out _ _ HZ.out.soc2.at_ (fun hH => ?_)
          clear hK K
          try simp only [Act.put, List.setIfInBounds_toArray, List.set_cons_zero, List.set_cons_succ]
          refine wpAnyH_done (by kernel_rfl) ?_ _
          clear hH
          go_wp2_with fail
          go_meet
          exact HZ.out.dve
        · go_simp
          have HN := Lib.hid (HD.out.alloc3)
          clear HD
          generalize x45.alloc (.cells #[.bool false, .int .u64 0, .int .u64 0, .int .u32 0, .int .u32 0, .int .u32 0, .int .u32 0, .int .u32 0, .int .u32 0, .int .u32 0, .int .u32 0, .int .u32 0, .int .u32 0, .int .u32 0, .int .u32 0, .int .u32 0, .int .u32 0, .int .u32 0, .slice none 0 0, .slice none 0 0, .int .u32 0, .bool false] 57) = x50 at *
          generalize x45.heap.size = g3 at *
          have HD := HN
          clear HN
          refine hK.out _ _ HD.out.soc.at_ (fun hH => ?_)
          clear hK K
          try simp only [Act.put, List.setIfInBounds_toArray, List.set_cons_zero, List.set_cons_succ]
          refine wpAnyH_ready (rs := [11]) (by kernel_rfl) (by simp) (AllReadyH.cons (o := ⟨some 19, _, _, _, _, _⟩) rfl (fun K hK => ?_) AllReadyH.nil)
          go_simp
          refine (uart_state HD.out.soc.u HD.out.soc.ok.u HSN.out).mono ?_
          rintro e x51 ⟨ra, rc, ta, tc, rfl, hrx, htx, hap, hb⟩
          have HN := Lib.hid (HD.out.call hrx htx hap hb)
          clear HD hb hrx htx hap
          have HD := HN
          clear HN
          go_wp2_with fail
          refine hK.out _ _ HD.out.soc.at_ (fun hH => ?_)
          clear hK K
          try simp only [Act.put, List.setIfInBounds_toArray, List.set_cons_zero, List.set_cons_succ]
          refine wpAnyH_ready (rs := [14]) (by kernel_rfl) (by simp) (AllReadyH.cons (o := ⟨none, _, _, _, _, _⟩) rfl (fun K hK => ?_) AllReadyH.nil)
          have hr3 : rowIs x51 g3 22 = true := rowIs_of (HD.out.g3 _ rfl).2
          have hr4 : rowIs x51 g4 22 = true := rowIs_of (HD.out.g4 _ rfl).2
          have hn34 : g4 ≠ g3 := fun e => HD.out.ne _ _ rfl rfl e.symm
          have HZ := Lib.hid (HD.out.fin rfl rfl rfl)
          go_simp
          refine hK.out _ _ HZ.out.soc1.at_ (fun hH => ?_)
          clear hK K
          try simp only [Act.put, List.setIfInBounds_toArray, List.set_cons_zero, List.set_cons_succ]
          refine wpAnyH_ready (rs := [15]) (by kernel_rfl) (by simp) (AllReadyH.cons (o := ⟨none, _, _, _, _, _⟩) rfl (fun K hK => ?_) AllReadyH.nil)
          go_simp
          refine hK.out _ _ HZ.out.soc2.at_ (fun hH => ?_)
          clear hK K
          try simp only [Act.put, List.setIfInBounds_toArray, List.set_cons_zero, List.set_cons_succ]
          refine wpAnyH_done (by kernel_rfl) ?_ _
          clear hH
          go_wp2_with fail
          go_meet
          exact HZ.out.dve
      · go_simp
        have HN := Lib.hid (HD.out.alloc3)
        clear HD
        generalize x44.alloc (.cells #[.bool false, .int .u64 0, .int .u64 0, .int .u32 0, .int .u32 0, .int .u32 0, .int .u32 0, .int .u32 0, .int .u32 0, .int .u32 0, .int .u32 0, .int .u32 0, .int .u32 0, .int .u32 0, .int .u32 0, .int .u32 0, .int .u32 0, .int .u32 0, .slice none 0 0, .slice none 0 0, .int .u32 0, .bool false] 57) = x54 at *
        generalize x44.heap.size = g3 at *
        have HD := HN
        clear HN
        refine hK.out _ _ HD.out.soc.at_ (fun hH => ?_)
        clear hK K
        try simp only [Act.put, List.setIfInBounds_toArray, List.set_cons_zero, List.set_cons_succ]
        refine wpAnyH_ready (rs := [5]) (by kernel_rfl) (by simp) (AllReadyH.cons (o := ⟨some 13, _, _, _, _, _⟩) rfl (fun K hK => ?_) AllReadyH.nil)
        go_simp
        refine (plic_state σ.p β.p _ HD.out.soc.p).mono ?_
        rintro e x55 ⟨rfl, hb⟩
        have HN := Lib.hid (HD.out.to hb)
        clear HD hb
        have HD := HN
        clear HN
        go_wp2_with fail
        refine hK.out _ _ HD.out.soc.at_ (fun hH => ?_)
        clear hK K
        try simp only [Act.put, List.setIfInBounds_toArray, List.set_cons_zero, List.set_cons_succ]
        refine wpAnyH_ready (rs := [11]) (by kernel_rfl) (by simp) (AllReadyH.cons (o := ⟨some 19, _, _, _, _, _⟩) rfl (fun K hK => ?_) AllReadyH.nil)
        go_simp
        refine (uart_state HD.out.soc.u HD.out.soc.ok.u HSN.out).mono ?_
        rintro e x56 ⟨ra, rc, ta, tc, rfl, hrx, htx, hap, hb⟩
        have HN := Lib.hid (HD.out.call hrx htx hap hb)
        clear HD hb hrx htx hap
        have HD := HN
        clear HN
        go_wp2_with fail
        refine hK.out _ _ HD.out.soc.at_ (fun hH => ?_)
        clear hK K
        try simp only [Act.put, List.setIfInBounds_toArray, List.set_cons_zero, List.set_cons_succ]
        refine wpAnyH_ready (rs := [14]) (by kernel_rfl) (by simp) (AllReadyH.cons (o := ⟨none, _, _, _, _, _⟩) rfl (fun K hK => ?_) AllReadyH.nil)
        have hr3 : rowIs x56 g3 22 = true := rowIs_of (HD.out.g3 _ rfl).2
        have hr4 : rowIs x56 g4 22 = true := rowIs_of (HD.out.g4 _ rfl).2
        have hn34 : g4 ≠ g3 := fun e => HD.out.ne _ _ rfl rfl e.symm
        have HZ := Lib.hid (HD.out.fin rfl rfl rfl)
        go_simp
        refine hK.out _ _ HZ.out.soc1.at_ (fun hH => ?_)
        clear hK K
        try simp only [Act.put, List.setIfInBounds_toArray, List.set_cons_zero, List.set_cons_succ]
        refine wpAnyH_ready (rs := [15]) (by kernel_rfl) (by simp) (AllReadyH.cons (o := ⟨none, _, _, _, _, _⟩) rfl (fun K hK => ?_) AllReadyH.nil)
        go_simp
        refine hK.out _ _ HZ.out.soc2.at_ (fun hH => ?_)
        clear hK K
        try simp only [Act.put, List.setIfInBounds_toArray, List.set_cons_zero, List.set_cons_succ]
        refine wpAnyH_done (by kernel_rfl) ?_ _
        clear hH
        go_wp2_with fail
        go_meet
        exact HZ.out.dve
  case rest =>
    obtain ⟨g3, g4, ra, rc, ta, tc, rfl, rfl, hd⟩ := hcut
    have HD := Lib.hid hd
    have c0 : wc.cell? ⟨β.s, 0, none⟩ = some (.pointer (some ⟨β.c, 0, none⟩)) := blk_cell hd.soc.at_ 0
    clear hd HD0
    go_wp2_with fail
    refine (clint_state HD.out.soc.c).mono ?_
    rintro e w1 ⟨rfl, k, rfl⟩
    have HD1 := Lib.hid (HD.out.drewN k)
    generalize wc.drewN k = w1 at *
    clear HD c0
    have f0 : w1.frozen? ⟨g3, 0, none⟩ = false := blk_frozen HD1.out.b3 0
    have f1 : w1.frozen? ⟨g3, 1, none⟩ = false := blk_frozen HD1.out.b3 1
    have f2 : w1.frozen? ⟨g3, 2, none⟩ = false := blk_frozen HD1.out.b3 2
    have c0 : w1.cell? ⟨g3, 0, none⟩ = some (.bool σ.p.msip) := blk_cell HD1.out.b3 0
    have c1 : w1.cell? ⟨g3, 1, none⟩ = some (.int .u64 σ.p.mtime) := blk_cell HD1.out.b3 1
    have c2 : w1.cell? ⟨g3, 2, none⟩ = some (.int .u64 σ.p.cmp) := blk_cell HD1.out.b3 2
    go_wp2_with fail
    have HD2 := Lib.hid (((HD1.out.set 0 (.bool σ.c.soft)).set 1 (.int .u64 σ.c.time)).set 2 (.int .u64 σ.c.cmp))
    generalize ((w1.setCell ⟨g3, 0, none⟩ (.bool σ.c.soft)).setCell ⟨g3, 1, none⟩ (.int .u64 σ.c.time)).setCell ⟨g3, 2, none⟩ (.int .u64 σ.c.cmp) = w2 at *
    clear HD1 f0 f1 f2 c0 c1 c2
    have f18 : w2.frozen? ⟨g3, 18, none⟩ = false := blk_frozen HD2.out.b3 18
    have f19 : w2.frozen? ⟨g3, 19, none⟩ = false := blk_frozen HD2.out.b3 19
    have f20 : w2.frozen? ⟨g3, 20, none⟩ = false := blk_frozen HD2.out.b3 20
    have f21 : w2.frozen? ⟨g3, 21, none⟩ = false := blk_frozen HD2.out.b3 21
    have c18 : w2.cell? ⟨g3, 18, none⟩ = some (.slice σ.p.rxa σ.p.rxl σ.p.rxc) := blk_cell HD2.out.b3 18
    have c19 : w2.cell? ⟨g3, 19, none⟩ = some (.slice σ.p.txa σ.p.txl σ.p.txc) := blk_cell HD2.out.b3 19
    have c20 : w2.cell? ⟨g3, 20, none⟩ = some (.int .u32 σ.p.uen) := blk_cell HD2.out.b3 20
    have c21 : w2.cell? ⟨g3, 21, none⟩ = some (.bool σ.p.lost) := blk_cell HD2.out.b3 21
    have HSS : Hid (∀ W : World, W.heap[g4]? = some (.cells (stateDev σ.u ra σ.u.n rc ta σ.u.sent.length tc).cells 57 (0, 0)) → ∀ o v, (W.setCell ⟨g3, o, none⟩ v).heap[g4]? = some (.cells (stateDev σ.u ra σ.u.n rc ta σ.u.sent.length tc).cells 57 (0, 0))) := fun W hW o v => ((Turned.refl (fun k => k = g3) W).set (.inl rfl) o v).keep (fun e => HD2.out.ne e.symm) hW
    refine wp_region_held_drew (S := fun wq => wq.heap[g4]? = some (.cells (stateDev σ.u ra σ.u.n rc ta σ.u.sent.length tc).cells 57 (0, 0))) (by kernel_rfl) HD2.out.b4 (fun hH => ?_)
    refine wpAnyH_take (i := 0) (oi := ⟨some 33, _, _, _, _, _⟩) (v := ?_) rfl (by kernel_rfl) (by kernel_rfl) (by kernel_rfl) (fun _ _ _ h => h) (Or.inl ⟨by kernel_rfl, ?_⟩) hH ?_
    rotate_left 1
    · intro wq hq; have r18 : wq.cell? ⟨g4, 18, none⟩ = some (.slice ra σ.u.n rc) := blk_cell hq 18; have r19 : wq.cell? ⟨g4, 19, none⟩ = some (.slice ta σ.u.sent.length tc) := blk_cell hq 19; have r20 : wq.cell? ⟨g4, 20, none⟩ = some (.int .u32 σ.u.on) := blk_cell hq 20; have r21 : wq.cell? ⟨g4, 21, none⟩ = some (.bool σ.u.lost) := blk_cell hq 21; clear hq; first | (go_simp; done) | (go_simp; with_reducible rfl)
    simp only [Act.put, List.setIfInBounds_toArray, List.set_cons_zero, List.set_cons_succ]
    refine wpAnyH_take (i := 1) (oi := ⟨some 34, _, _, _, _, _⟩) (v := ?_) rfl (by kernel_rfl) (by kernel_rfl) (by kernel_rfl) (fun _ _ _ h => h) (Or.inl ⟨by kernel_rfl, ?_⟩) hH ?_
    rotate_left 1
    · intro wq hq; have r18 : wq.cell? ⟨g4, 18, none⟩ = some (.slice ra σ.u.n rc) := blk_cell hq 18; have r19 : wq.cell? ⟨g4, 19, none⟩ = some (.slice ta σ.u.sent.length tc) := blk_cell hq 19; have r20 : wq.cell? ⟨g4, 20, none⟩ = some (.int .u32 σ.u.on) := blk_cell hq 20; have r21 : wq.cell? ⟨g4, 21, none⟩ = some (.bool σ.u.lost) := blk_cell hq 21; clear hq; first | (go_simp; done) | (go_simp; with_reducible rfl)
    simp only [Act.put, List.setIfInBounds_toArray, List.set_cons_zero, List.set_cons_succ]
    refine wpAnyH_take (i := 2) (oi := ⟨some 35, _, _, _, _, _⟩) (v := ?_) rfl (by kernel_rfl) (by kernel_rfl) (by kernel_rfl) (fun _ _ _ h => h) (Or.inl ⟨by kernel_rfl, ?_⟩) hH ?_
    rotate_left 1
    · intro wq hq; have r18 : wq.cell? ⟨g4, 18, none⟩ = some (.slice ra σ.u.n rc) := blk_cell hq 18; have r19 : wq.cell? ⟨g4, 19, none⟩ = some (.slice ta σ.u.sent.length tc) := blk_cell hq 19; have r20 : wq.cell? ⟨g4, 20, none⟩ = some (.int .u32 σ.u.on) := blk_cell hq 20; have r21 : wq.cell? ⟨g4, 21, none⟩ = some (.bool σ.u.lost) := blk_cell hq 21; clear hq; first | (go_simp; done) | (go_simp; with_reducible rfl)
    simp only [Act.put, List.setIfInBounds_toArray, List.set_cons_zero, List.set_cons_succ]
    refine wpAnyH_take (i := 3) (oi := ⟨some 36, _, _, _, _, _⟩) (v := ?_) rfl (by kernel_rfl) (by kernel_rfl) (by kernel_rfl) (fun _ _ _ h => h) (Or.inl ⟨by kernel_rfl, ?_⟩) hH ?_
    rotate_left 1
    · intro wq hq; have r18 : wq.cell? ⟨g4, 18, none⟩ = some (.slice ra σ.u.n rc) := blk_cell hq 18; have r19 : wq.cell? ⟨g4, 19, none⟩ = some (.slice ta σ.u.sent.length tc) := blk_cell hq 19; have r20 : wq.cell? ⟨g4, 20, none⟩ = some (.int .u32 σ.u.on) := blk_cell hq 20; have r21 : wq.cell? ⟨g4, 21, none⟩ = some (.bool σ.u.lost) := blk_cell hq 21; clear hq; first | (go_simp; done) | (go_simp; with_reducible rfl)
    simp only [Act.put, List.setIfInBounds_toArray, List.set_cons_zero, List.set_cons_succ]
    refine wpAnyH_take (i := 4) (oi := ⟨some 37, _, _, _, _, _⟩) (v := ?_) rfl (by kernel_rfl) (by kernel_rfl) (by kernel_rfl) (fun _ _ _ h => h) (Or.inl ⟨by kernel_rfl, ?_⟩) hH ?_
    rotate_left 1
    · intro wq hq; have r18 : wq.cell? ⟨g4, 18, none⟩ = some (.slice ra σ.u.n rc) := blk_cell hq 18; have r19 : wq.cell? ⟨g4, 19, none⟩ = some (.slice ta σ.u.sent.length tc) := blk_cell hq 19; have r20 : wq.cell? ⟨g4, 20, none⟩ = some (.int .u32 σ.u.on) := blk_cell hq 20; have r21 : wq.cell? ⟨g4, 21, none⟩ = some (.bool σ.u.lost) := blk_cell hq 21; clear hq; first | (go_simp; done) | (go_simp; with_reducible rfl)
    simp only [Act.put, List.setIfInBounds_toArray, List.set_cons_zero, List.set_cons_succ]
    refine wpAnyH_take (i := 5) (oi := ⟨some 38, _, _, _, _, _⟩) (v := ?_) rfl (by kernel_rfl) (by kernel_rfl) (by kernel_rfl) (fun _ _ _ h => h) (Or.inl ⟨by kernel_rfl, ?_⟩) hH ?_
    rotate_left 1
    · intro wq hq; have r18 : wq.cell? ⟨g4, 18, none⟩ = some (.slice ra σ.u.n rc) := blk_cell hq 18; have r19 : wq.cell? ⟨g4, 19, none⟩ = some (.slice ta σ.u.sent.length tc) := blk_cell hq 19; have r20 : wq.cell? ⟨g4, 20, none⟩ = some (.int .u32 σ.u.on) := blk_cell hq 20; have r21 : wq.cell? ⟨g4, 21, none⟩ = some (.bool σ.u.lost) := blk_cell hq 21; clear hq; first | (go_simp; done) | (go_simp; with_reducible rfl)
    simp only [Act.put, List.setIfInBounds_toArray, List.set_cons_zero, List.set_cons_succ]
    refine wpAnyH_take (i := 6) (oi := ⟨some 39, _, _, _, _, _⟩) (v := ?_) rfl (by kernel_rfl) (by kernel_rfl) (by kernel_rfl) (fun _ _ _ h => h) (Or.inl ⟨by kernel_rfl, ?_⟩) hH ?_
    rotate_left 1
    · intro wq hq; have r18 : wq.cell? ⟨g4, 18, none⟩ = some (.slice ra σ.u.n rc) := blk_cell hq 18; have r19 : wq.cell? ⟨g4, 19, none⟩ = some (.slice ta σ.u.sent.length tc) := blk_cell hq 19; have r20 : wq.cell? ⟨g4, 20, none⟩ = some (.int .u32 σ.u.on) := blk_cell hq 20; have r21 : wq.cell? ⟨g4, 21, none⟩ = some (.bool σ.u.lost) := blk_cell hq 21; clear hq; first | (go_simp; done) | (go_simp; with_reducible rfl)
    simp only [Act.put, List.setIfInBounds_toArray, List.set_cons_zero, List.set_cons_succ]
    refine wpAnyH_take (i := 7) (oi := ⟨some 40, _, _, _, _, _⟩) (v := ?_) rfl (by kernel_rfl) (by kernel_rfl) (by kernel_rfl) (fun _ _ _ h => h) (Or.inl ⟨by kernel_rfl, ?_⟩) hH ?_
    rotate_left 1
    · intro wq hq; have r18 : wq.cell? ⟨g4, 18, none⟩ = some (.slice ra σ.u.n rc) := blk_cell hq 18; have r19 : wq.cell? ⟨g4, 19, none⟩ = some (.slice ta σ.u.sent.length tc) := blk_cell hq 19; have r20 : wq.cell? ⟨g4, 20, none⟩ = some (.int .u32 σ.u.on) := blk_cell hq 20; have r21 : wq.cell? ⟨g4, 21, none⟩ = some (.bool σ.u.lost) := blk_cell hq 21; clear hq; first | (go_simp; done) | (go_simp; with_reducible rfl)
    simp only [Act.put, List.setIfInBounds_toArray, List.set_cons_zero, List.set_cons_succ]
    refine wpAnyH_take (i := 8) (oi := ⟨some 41, _, _, _, _, _⟩) (v := ?_) rfl (by kernel_rfl) (by kernel_rfl) (by kernel_rfl) (fun _ _ _ h => h) (Or.inl ⟨by kernel_rfl, ?_⟩) hH ?_
    rotate_left 1
    · intro wq hq; have r18 : wq.cell? ⟨g4, 18, none⟩ = some (.slice ra σ.u.n rc) := blk_cell hq 18; have r19 : wq.cell? ⟨g4, 19, none⟩ = some (.slice ta σ.u.sent.length tc) := blk_cell hq 19; have r20 : wq.cell? ⟨g4, 20, none⟩ = some (.int .u32 σ.u.on) := blk_cell hq 20; have r21 : wq.cell? ⟨g4, 21, none⟩ = some (.bool σ.u.lost) := blk_cell hq 21; clear hq; first | (go_simp; done) | (go_simp; with_reducible rfl)
    simp only [Act.put, List.setIfInBounds_toArray, List.set_cons_zero, List.set_cons_succ]
    refine wpAnyH_ready (rs := [9]) (by kernel_rfl) (by simp) (AllReadyH.cons (o := ⟨none, _, _, _, _, _⟩) rfl (fun K hK => ?_) AllReadyH.nil)
    go_simp
    refine hK.out _ _ (HSS.out _ hH _ _) (fun hH => ?_)
    clear hK K
    try simp only [Act.put, List.setIfInBounds_toArray, List.set_cons_zero, List.set_cons_succ]
    refine wpAnyH_take (i := 10) (oi := ⟨some 42, _, _, _, _, _⟩) (v := ?_) rfl (by kernel_rfl) (by kernel_rfl) (by kernel_rfl) (fun _ _ _ h => h) (Or.inl ⟨by kernel_rfl, ?_⟩) hH ?_
    rotate_left 1
    · intro wq hq; have r18 : wq.cell? ⟨g4, 18, none⟩ = some (.slice ra σ.u.n rc) := blk_cell hq 18; have r19 : wq.cell? ⟨g4, 19, none⟩ = some (.slice ta σ.u.sent.length tc) := blk_cell hq 19; have r20 : wq.cell? ⟨g4, 20, none⟩ = some (.int .u32 σ.u.on) := blk_cell hq 20; have r21 : wq.cell? ⟨g4, 21, none⟩ = some (.bool σ.u.lost) := blk_cell hq 21; clear hq; first | (go_simp; done) | (go_simp; with_reducible rfl)
    simp only [Act.put, List.setIfInBounds_toArray, List.set_cons_zero, List.set_cons_succ]
    refine wpAnyH_ready (rs := [11]) (by kernel_rfl) (by simp) (AllReadyH.cons (o := ⟨none, _, _, _, _, _⟩) rfl (fun K hK => ?_) AllReadyH.nil)
    go_simp
    refine hK.out _ _ (HSS.out _ hH _ _) (fun hH => ?_)
    clear hK K
    try simp only [Act.put, List.setIfInBounds_toArray, List.set_cons_zero, List.set_cons_succ]
    refine wpAnyH_take (i := 12) (oi := ⟨some 43, _, _, _, _, _⟩) (v := ?_) rfl (by kernel_rfl) (by kernel_rfl) (by kernel_rfl) (fun _ _ _ h => h) (Or.inl ⟨by kernel_rfl, ?_⟩) hH ?_
    rotate_left 1
    · intro wq hq; have r18 : wq.cell? ⟨g4, 18, none⟩ = some (.slice ra σ.u.n rc) := blk_cell hq 18; have r19 : wq.cell? ⟨g4, 19, none⟩ = some (.slice ta σ.u.sent.length tc) := blk_cell hq 19; have r20 : wq.cell? ⟨g4, 20, none⟩ = some (.int .u32 σ.u.on) := blk_cell hq 20; have r21 : wq.cell? ⟨g4, 21, none⟩ = some (.bool σ.u.lost) := blk_cell hq 21; clear hq; first | (go_simp; done) | (go_simp; with_reducible rfl)
    simp only [Act.put, List.setIfInBounds_toArray, List.set_cons_zero, List.set_cons_succ]
    refine wpAnyH_ready (rs := [13]) (by kernel_rfl) (by simp) (AllReadyH.cons (o := ⟨none, _, _, _, _, _⟩) rfl (fun K hK => ?_) AllReadyH.nil)
    go_simp
    refine hK.out _ _ (HSS.out _ hH _ _) (fun hH => ?_)
    clear hK K
    try simp only [Act.put, List.setIfInBounds_toArray, List.set_cons_zero, List.set_cons_succ]
    refine wpAnyH_take (i := 14) (oi := ⟨some 44, _, _, _, _, _⟩) (v := ?_) rfl (by kernel_rfl) (by kernel_rfl) (by kernel_rfl) (fun _ _ _ h => h) (Or.inl ⟨by kernel_rfl, ?_⟩) hH ?_
    rotate_left 1
    · intro wq hq; have r18 : wq.cell? ⟨g4, 18, none⟩ = some (.slice ra σ.u.n rc) := blk_cell hq 18; have r19 : wq.cell? ⟨g4, 19, none⟩ = some (.slice ta σ.u.sent.length tc) := blk_cell hq 19; have r20 : wq.cell? ⟨g4, 20, none⟩ = some (.int .u32 σ.u.on) := blk_cell hq 20; have r21 : wq.cell? ⟨g4, 21, none⟩ = some (.bool σ.u.lost) := blk_cell hq 21; clear hq; first | (go_simp; done) | (go_simp; with_reducible rfl)
    simp only [Act.put, List.setIfInBounds_toArray, List.set_cons_zero, List.set_cons_succ]
    refine wpAnyH_ready (rs := [15]) (by kernel_rfl) (by simp) (AllReadyH.cons (o := ⟨none, _, _, _, _, _⟩) rfl (fun K hK => ?_) AllReadyH.nil)
    go_simp
    refine hK.out _ _ (HSS.out _ hH _ _) (fun hH => ?_)
    clear hK K
    try simp only [Act.put, List.setIfInBounds_toArray, List.set_cons_zero, List.set_cons_succ]
    refine wpAnyH_done (by kernel_rfl) ?_ _
    clear hH
    have HD3 := Lib.hid (((((HD2.out.set 18 (.slice ra σ.u.n rc)).set 19 (.slice ta σ.u.sent.length tc)).set 20 (.int .u32 σ.u.on)).set 21 (.bool σ.u.lost)).conv (σ.devp_eq ra rc ta tc)).drew
    generalize ((((w2.setCell ⟨g3, 18, none⟩ (.slice ra σ.u.n rc)).setCell ⟨g3, 19, none⟩ (.slice ta σ.u.sent.length tc)).setCell ⟨g3, 20, none⟩ (.int .u32 σ.u.on)).setCell ⟨g3, 21, none⟩ (.bool σ.u.lost)).drew = w3 at *
    clear HD2 HSS f18 f19 f20 f21 c18 c19 c20 c21
    have c5 : w3.cell? ⟨β.s, 5, none⟩ = some (.int .u32 σ.levels) := blk_cell HD3.out.soc.at_ 5
    have f17 : w3.frozen? ⟨g3, 17, none⟩ = false := blk_frozen HD3.out.b3 17
    have c17 : w3.cell? ⟨g3, 17, none⟩ = some (.int .u32 σ.p.lines) := blk_cell HD3.out.b3 17
    go_upto_region 7 with fail
    have hd4 : DW w β σ lg sn SR (w3.setCell ⟨g3, 17, none⟩ (.int .u32 σ.levels)) g3 g4 (σ.dev ra rc ta tc).cells ra rc ta tc := (HD3.out.set 17 (.int .u32 σ.levels)).conv (σ.dev_eq ra rc ta tc)
    have HD4 := Lib.hid hd4
    generalize w3.setCell ⟨g3, 17, none⟩ (.int .u32 σ.levels) = w4 at *
    clear HD3 hd4 c5 f17 c17
    have hr0 : rowIs w4 g3 22 = true := rowIs_of HD4.out.b3
    have hr1 : rowOf w4 g3 = (σ.dev ra rc ta tc).cells := rowOf_of HD4.out.b3
    have hr9 : rowIs w4 w.heap.size 22 = true := rowIs_of HD4.out.res
    have hne : ¬ g3 = w.heap.size := by have := HD4.out.l3; omega
    have HE : Hid (DevsIs w σ (.returned (.agg (σ.dev ra rc ta tc).cells)) (w4.setRow w.heap.size (σ.dev ra rc ta tc).cells)) := ⟨ra, rc, ta, tc, rfl, HD4.out.rows.turned (setRow_turned _ _ _) (fun g e => by subst e; exact cells_ne8 HD4.out.res (by decide)), below_setRow HD4.out.below (Nat.le_refl _) _⟩
    clear HD4
    go_wp2
    exact bodyPost_ret (res_c _ _ (w4.setRow w.heap.size (σ.dev ra rc ta tc).cells) w.heap.size (σ.dev ra rc ta tc).cells rfl (lv_dev _ _ _ (by rw [is_setRow_same _ _ _ _ _ hr9]; rfl) (row_setRow_same _ _ _ _ hr9)) rfl) rfl HE.out
end Go.Proofs.Ytefcdbpmpnmkjaa
end
section
set_option linter.unusedVariables false
set_option linter.unusedSimpArgs false
namespace Go.Proofs.Ytefcdbpmpnmkjaa
section
open Go.RowKit
set_option maxRecDepth 100000
def pmaMay (n : Nat) (x size kind : Int) : Bool := (pmaFind n x).1 != 0 && !decide (IntKind.u64.wrap ((pmaFind n x).2.2.1 - size) < (pmaFind n x).2.2.2) && (kind == 1 || (kind == 2 && (pmaFind n x).1 != 1))
def MayIs (n : Nat) (x size kind : Int) (w : World) (e : Ending) (w' : World) : Prop := e = .returned (.bool (pmaMay n x size kind)) ∧ Below w.heap.size w w'
set_option maxHeartbeats 8000000 in
theorem pma_may (n : Nat) (h4 : 4 ≤ n) (h256 : n ≤ 256) (x : Int) (h0 : 0 ≤ x) (h1 : x < 18446744073709551616) (size kind : Int) (hs : size = 1 ∨ size = 2 ∨ size = 4 ∨ size = 8) (hk : kind = 1 ∨ kind = 2) (w : World) :
    Calls Try.prog 57 #[.int .i64 n, .int .u64 x, .int .i64 size, .int .i64 kind, .bool false] w (MayIs n x size kind w) := by
  have HF := Lib.hid (pma_find n h4 h256 x h0 h1)
  have HR : Hid (∀ b w', pmaMay n x size kind = b → Below w.heap.size w w' → MayIs n x size kind w (.returned (.bool b)) w') := fun b w' h hb => ⟨by rw [h], hb⟩
  unfold pmaMay at HR
  have esz : IntKind.u64.wrap size = size := by rw [IntKind.wrap_u64]; omega
  unfold FindIs at HF
  generalize pmaFind n x = f at *
  obtain ⟨k, b, s, o⟩ := f
  clear h4 h256 h0 h1
  simp only at HR HF
  cases ek : (k == 0) <;> cases e1 : (k == 1) <;> cases eo : decide (IntKind.u64.wrap (s - size) < o)
  all_goals
    first
      | (exfalso; simp at ek e1; omega)
      | skip
  all_goals
    rcases hs with rfl | rfl | rfl | rfl <;> rcases hk with rfl | rfl
  all_goals
    go_enter Try.func57, Try.ntmps57
    go_wp2_with fail
    refine (HF.out w).mono ?_
    rintro e w1 ⟨rfl, hb⟩
    have HB := Lib.hid hb
    clear hb
    go_wp2
    go_ret
    refine HR.out _ _ ?_ (below_then HB.out ((Below.refl _ _).alloc (Nat.le_refl _) _) HB.out.size)
    rw [eo]; simp only [bne, ek, e1]; rfl
end
section
open Go.RowKit
set_option maxRecDepth 100000
theorem and_ones (v m : Nat) (hv : v < 2 ^ 64) (hm : m ≤ 64) (k : Int) (hk : k = ((2 ^ m - 1 : Nat) : Int)) : bits .and .u64 (v : Int) k = ((v % 2 ^ m : Nat) : Int) := by
  subst hk
  show IntKind.u64.wrap ((BitVec.ofInt 64 (v : Int) &&& BitVec.ofInt 64 ((2 ^ m - 1 : Nat) : Int)).toNat : Int) = _
  have e2 : ∀ q : Nat, q < 2 ^ 64 → (BitVec.ofInt 64 (q : Int)).toNat = q := fun q hq => by simp; omega
  have h1 : 2 ^ m ≤ 2 ^ 64 := Nat.pow_le_pow_right (by omega) hm
  have h0 : 0 < 2 ^ m := Nat.two_pow_pos m
  rw [BitVec.toNat_and, e2 v hv, e2 _ (by omega), Nat.and_two_pow_sub_one_eq_mod, IntKind.wrap_u64]
  have := Nat.mod_lt v h0
  omega
def Zx (s : Int) (v : Nat) : Nat := v % 2 ^ (8 * s.toNat)
theorem bits_zext (v : Nat) (hv : v < 2 ^ 64) (s : Int) (hs : s = 1 ∨ s = 2 ∨ s = 4 ∨ s = 8) (w : World) :
    Calls Try.prog 26 #[.int .u64 v, .int .i64 (8 * s)] w fun e w' => e = .returned (.int .u64 (Zx s v : Nat)) ∧ w = w' := by
  rcases hs with rfl | rfl | rfl | rfl
  · have HF : Hid (Zx 1 v = v % 2 ^ 8) := rfl
    have ez := and_ones v 8 hv (by decide) 255 (by decide)
    generalize v % 2 ^ 8 = x at *
    clear hv
    go_enter Try.func26, Try.ntmps26
    go_wp2_with (go_in)
    go_ret
    exact ⟨by rw [HF.out]; rfl, rfl⟩
  · have HF : Hid (Zx 2 v = v % 2 ^ 16) := rfl
    have ez := and_ones v 16 hv (by decide) 65535 (by decide)
    generalize v % 2 ^ 16 = x at *
    clear hv
    go_enter Try.func26, Try.ntmps26
    go_wp2_with (go_in)
    go_ret
    exact ⟨by rw [HF.out]; rfl, rfl⟩
  · have HF : Hid (Zx 4 v = v % 2 ^ 32) := rfl
    have ez := and_ones v 32 hv (by decide) 4294967295 (by decide)
    generalize v % 2 ^ 32 = x at *
    clear hv
    go_enter Try.func26, Try.ntmps26
    go_wp2_with (go_in)
    go_ret
    exact ⟨by rw [HF.out]; rfl, rfl⟩
  · have HF : Hid (Zx 8 v = v % 2 ^ 64) := rfl
    have ez := and_ones v 64 hv (by decide) 18446744073709551615 (by decide)
    generalize v % 2 ^ 64 = x at *
    clear hv
    go_enter Try.func26, Try.ntmps26
    go_wp2_with (go_in)
    go_ret
    exact ⟨by rw [HF.out]; rfl, rfl⟩
end
section
open Go.RowKit
set_option maxRecDepth 100000
def sz1248 (size : Int) : Bool := size == 1 || size == 2 || size == 4 || size == 8
/-- why an access may not be -/
def socErr (n : Nat) (x size kind : Int) : Int := if sz1248 size then (if x % size = 0 then (if pmaMay n x size kind then 0 else 6) else 5) else 1
def SocMay (n : Nat) (x size kind : Int) (w : World) (e : Ending) (w' : World) : Prop := e = .returned (.int .i64 (socErr n x size kind)) ∧ Below w.heap.size w w'
theorem soc_may_nil (x size kind : Int) (w : World) : Calls Try.prog 25 #[.pointer none, .int .u64 x, .int .i64 size, .int .i64 kind] w fun e w' => e = .returned (.int .i64 2) ∧ w = w' := by
  go_enter Try.func25, Try.ntmps25
  go_wp2
  go_ret
  exact ⟨rfl, rfl⟩
set_option maxHeartbeats 4000000 in
theorem soc_may {w : World} {β : SocB} {σ : SocS} {lg sn : Value} {SR : Nat → Prop} (h : SocIs w β σ lg sn SR) (x : Int) (h0 : 0 ≤ x) (h1 : x < 18446744073709551616) (size kind : Int) (hk : kind = 1 ∨ kind = 2) :
    Calls Try.prog 25 #[.pointer (some ⟨β.s, 0, none⟩), .int .u64 x, .int .i64 size, .int .i64 kind] w (SocMay σ.n x size kind w) := by
  have cr : w.cell? ⟨β.s, 3, none⟩ = some (.pointer (some ⟨β.r, 0, none⟩)) := blk_cell h.at_ 3
  have HP := Lib.hid (ram_pages h.r)
  have HLO := Lib.hid h.r.lo
  have HR : Hid (∀ k w', socErr σ.n x size kind = k → Below w.heap.size w w' → SocMay σ.n x size kind w (.returned (.int .i64 k)) w') := fun k w' hk hb => ⟨by rw [hk], hb⟩
  unfold socErr at HR
  clear h
  by_cases hs : size = 1 ∨ size = 2 ∨ size = 4 ∨ size = 8
  · have e1 : sz1248 size = true := by unfold sz1248; simp; omega
    have HA : Hid (∀ w, Calls Try.prog 56 #[.int .u64 x, .int .i64 size] w fun e w' => e = .returned (.bool (decide (x % size = 0))) ∧ w = w') := fun w => by
      have := bits_aligned x h0 size.toNat (by omega) (by omega) w
      rw [show (size.toNat : Int) = size by omega] at this
      exact this
    have HM : Hid (∀ w, Calls Try.prog 57 #[.int .i64 σ.n, .int .u64 x, .int .i64 size, .int .i64 kind, .bool false] w (MayIs σ.n x size kind w)) := fun w => pma_may σ.n HLO.out.1 HLO.out.2 x h0 h1 size kind hs hk w
    unfold MayIs at HM
    clear h0 h1 hk
    rw [e1, if_pos rfl] at HR
    clear e1
    by_cases hal : x % size = 0
    · have HA : Hid (∀ w, Calls Try.prog 56 #[.int .u64 x, .int .i64 size] w fun e w' => e = .returned (.bool true) ∧ w = w') := fun w => (HA.out w).mono fun e w' ⟨h1, h2⟩ => ⟨by rw [h1, decide_eq_true hal], h2⟩
      rw [if_pos hal] at HR
      clear hal
      cases hm : pmaMay σ.n x size kind
      all_goals
        rw [hm] at HR HM
        clear hm
        rcases hs with rfl | rfl | rfl | rfl
      all_goals
        go_enter Try.func25, Try.ntmps25
        go_wp2_with fail
        refine (HA.out _).mono ?_
        rintro e w1 ⟨rfl, rfl⟩
        go_wp2_with fail
        refine HP.out.mono ?_
        rintro e w1 ⟨rfl, rfl⟩
        go_wp2_with fail
        refine (HM.out _).mono ?_
        rintro e w1 ⟨rfl, hb⟩
        have HB := Lib.hid hb
        clear hb
        go_wp2
        go_ret
        exact HR.out _ _ rfl HB.out
    · have HA : Hid (∀ w, Calls Try.prog 56 #[.int .u64 x, .int .i64 size] w fun e w' => e = .returned (.bool false) ∧ w = w') := fun w => (HA.out w).mono fun e w' ⟨h1, h2⟩ => ⟨by rw [h1, decide_eq_false hal], h2⟩
      rw [if_neg hal] at HR
      clear hal HM
      rcases hs with rfl | rfl | rfl | rfl
      all_goals
        go_enter Try.func25, Try.ntmps25
        go_wp2_with fail
        refine (HA.out _).mono ?_
        rintro e w1 ⟨rfl, rfl⟩
        go_wp2
        go_ret
        exact HR.out _ _ rfl (Below.refl _ _)
  · have e1 : sz1248 size = false := by unfold sz1248; simp; omega
    rw [e1, if_neg (by decide)] at HR
    have q1 : (size != 1) = true := by simp; omega
    have q2 : (size != 2) = true := by simp; omega
    have q3 : (size != 4) = true := by simp; omega
    have q4 : (size != 8) = true := by simp; omega
    clear e1 h0 h1 hk hs
    go_enter Try.func25, Try.ntmps25
    go_wp2
    go_ret
    exact HR.out _ _ rfl (Below.refl _ _)
end
end Go.Proofs.Ytefcdbpmpnmkjaa
end
section
set_option linter.unusedVariables false
set_option linter.unusedSimpArgs false
namespace Go.Proofs.Ytefcdbpmpnmkjaa
open Go.RowKit
set_option maxRecDepth 100000
theorem acc_info : (Try.prog.info? 51).map (fun i => (i.zero, i.size, i.bytes)) = some (some (.agg #[.int .u64 0, .int .u64 0, .int .i64 0, .bool false, .int .u64 0, .bool false]), 6, 48) := by kernel_rfl
theorem new_cell (w : World) (C : Array Value) (t : TypeId) (j : Nat) (u : Value) (h : C.toList[j]? = some u) : (w.alloc (.cells C t)).cell? ((⟨w.heap.size, 0, none⟩ : Addr).add j) = some u := by
  rw [addr_add, Nat.zero_add]
  exact (blk_cell (blk_alloc _ _) j).trans (by rw [← Array.getElem?_toList]; exact h)
theorem step_app6 {P : Program} {w : World} {ops : Array Oper} {o : Oper} {a : Act} {K : Act → World → Prop} {Q : Exit → Act → World → Prop} {E : Prop} (hgd : o.guard = none) (s x : Operand) (t : TypeId)
    (ho : o.op = .call { callee := .builtin .append, args := #[s, x], argTypes := #[t, t] })
    (base : Nat) (e : TypeId) (z : Value) (size bytes : Nat) (ht : P.underlying t = some (.slice e)) (hinfo : (P.info? e).map (fun i => (i.zero, i.size, i.bytes)) = some (some z, size, bytes)) (hz1 : z.cells.size = size) (hsz0 : 0 < size)
    (v : Value) (n : Nat) (xs : List Value) (hs : a.eval s = v) (hown : w.ownsRow base e size v n xs)
    (b m c : Nat) (news : List Value) (hx : a.eval x = .slice (some ⟨b, 0, none⟩) m c) (hl : news.length = m * size) (hc : ∀ j u, news[j]? = some u → w.cell? ((⟨b, 0, none⟩ : Addr).add j) = some u) (h1 : ∀ u ∈ news, u.oneCell' = true)
    (hbytes : (n + m) * bytes ≤ 140737488355328) (h63 : n + m ≤ maxLen) (hbase : base ≤ w.heap.size)
    (h : ∀ v' w', w'.ownsRow base e size v' (n + m) (xs ++ news) → w.grownBy w' v.ownBlock → (v'.ownBlock = v.ownBlock ∨ v'.ownBlock = some w.heap.size) → K (a.put o.dst v') w') : if Region.wanted o (yielded ops a.tmps) = true then Oper.wp P o a w K Q else E := by
  have hw : Region.wanted o (yielded ops a.tmps) = true := by simp [Region.wanted, hgd]
  rw [if_pos hw]
  obtain ⟨i, hi, hzz⟩ := Option.map_eq_some_iff.1 hinfo
  simp only [Prod.mk.injEq] at hzz
  obtain ⟨hz, hsz, hb⟩ := hzz
  unfold Oper.wp execOp
  obtain ⟨v', w', hr, h2, h3, _, h5⟩ := run_append_own_at (P := P) (w := w) base t o.type e i z size bytes ht hi hz hsz hb hz1 hsz0 v n xs hown ⟨b, 0, none⟩ m c news hl hc h1 h63 hbytes hbase
  simp only [ho, resolve, invoke, builtin, Sem.run_bind, Sem.run_pure, Result.andThen_ok, List.map_toArray, List.map_cons, List.map_nil, hs, hx, hr]
  exact h v' w' h2 h3 h5
def SocS.note (σ : SocS) (a : Acc) : SocS := { σ with log := σ.log ++ [a] }
theorem SocIs.noted {w w1 : World} {β : SocB} {σ : SocS} {lg sn : Value} {SR : Nat → Prop} (h : SocIs w β σ lg sn SR) (a : Acc) {tmp : Obj} {v' : Value} (hown' : w1.ownsRow 0 51 6 v' (σ.log.length + 1) (σ.log.flatMap Acc.vals ++ a.vals)) (hgrow : (w.alloc tmp).grownBy w1 lg.ownBlock) (hob : v'.ownBlock = lg.ownBlock ∨ v'.ownBlock = some (w.alloc tmp).heap.size) :
    SocTo w (w1.setCell ⟨β.s, 6, none⟩ v') β (σ.note a) (SocOwn β lg sn SR) := by
  obtain ⟨q1, q2, q3, q4⟩ := field_appended h.at_ (by decide) h.log hown' hgrow hob 6
  have h2 : SocIs (w1.setCell ⟨β.s, 6, none⟩ v') β (σ.note a) v' sn SR := h.self (l := σ.log ++ [a]) q3 q1 (by rw [List.length_append, List.flatMap_append]; simpa using q2) h.ok.cycle h.ok.levels
  refine ⟨_, ⟨v', sn, SR, h2, rfl⟩, q3.mono fun g hg => ?_, fun g hg => ?_⟩
  · rcases hg with hg | hg
    · exact .inl hg
    · exact .inr (.inr (.inr (.inr (.inr (.inl hg)))))
  · rcases hg with hg | hg | hg | hg | hg | hg | hg
    · exact .inl (.inl hg)
    · exact .inl (.inr (.inl hg))
    · exact .inl (.inr (.inr (.inl hg)))
    · exact .inl (.inr (.inr (.inr (.inl hg))))
    · exact .inl (.inr (.inr (.inr (.inr (.inl hg)))))
    · rcases q4 g hg with hg | hg
      · exact .inl (.inr (.inr (.inr (.inr (.inr (.inl hg))))))
      · exact .inr hg
    · exact .inl (.inr (.inr (.inr (.inr (.inr (.inr hg))))))
set_option maxHeartbeats 4000000 in
theorem soc_note {w : World} {β : SocB} {σ : SocS} {lg sn : Value} {SR : Nat → Prop} (h : SocIs w β σ lg sn SR) (hlen : σ.log.length < 1000000) (x : Nat) (size : Int) (wr : Bool) (v : Nat) (e : Int) :
    Calls Try.prog 31 #[.pointer (some ⟨β.s, 0, none⟩), .int .u64 x, .int .i64 size, .bool wr, .int .u64 v, .int .i64 e] w fun e' w' => e' = .returned (.tuple #[]) ∧ SocTo w w' β (σ.note ⟨σ.cycle, x, size, wr, v, e != 0⟩) (SocOwn β lg sn SR) := by
  have H := Lib.hid h
  have HLG := Lib.hid h.log
  have HK1 : Hid (σ.log.length + 1 ≤ maxLen ∧ (σ.log.length + 1) * 48 ≤ 140737488355328) := by
    refine ⟨?_, by omega⟩
    show _ ≤ _
    unfold maxLen; omega
  have c4 : w.cell? ⟨β.s, 4, none⟩ = some (.int .u64 σ.cycle) := blk_cell h.at_ 4
  have c6 : w.cell? ⟨β.s, 6, none⟩ = some lg := blk_cell h.at_ 6
  have HSA : Hid (∀ o, (w.drew.alloc o).cell? ⟨β.s, 4, none⟩ = some (.int .u64 σ.cycle)) := fun o => (World.cell?_of_block (blk_alloc_old _ _ _ (blk_lt H.out.at_))).trans c4
  clear h hlen
  go_enter Try.func31, Try.ntmps31
  go_wp2_with fail
  refine wp_region_held_drew (S := fun wq => wq.cell? ⟨β.s, 4, none⟩ = some (.int .u64 σ.cycle)) (by kernel_rfl) c4 (fun hH => ?_)
  refine wpAnyH_take (i := 0) (oi := ⟨some 12, _, _, _, _, _⟩) (v := ?_) rfl (by kernel_rfl) (by kernel_rfl) (by kernel_rfl) (fun _ _ _ h => h) (Or.inl ⟨by kernel_rfl, ?_⟩) hH ?_
  rotate_left 1
  · intro wq hq; have c4 : wq.cell? ⟨β.s, 4, none⟩ = some (.int .u64 σ.cycle) := hq; first | (go_simp; done) | (go_simp; with_reducible rfl)
  simp only [Act.put, List.setIfInBounds_toArray, List.set_cons_zero, List.set_cons_succ]
  refine wpAnyH_take (i := 1) (oi := ⟨some 13, _, _, _, _, _⟩) (v := ?_) rfl (by kernel_rfl) (by kernel_rfl) (by kernel_rfl) (fun _ _ _ h => h) (Or.inl ⟨by kernel_rfl, ?_⟩) hH ?_
  rotate_left 1
  · intro wq hq; have c4 : wq.cell? ⟨β.s, 4, none⟩ = some (.int .u64 σ.cycle) := hq; first | (go_simp; done) | (go_simp; with_reducible rfl)
  simp only [Act.put, List.setIfInBounds_toArray, List.set_cons_zero, List.set_cons_succ]
  refine wpAnyH_take (i := 2) (oi := ⟨some 14, _, _, _, _, _⟩) (v := ?_) rfl (by kernel_rfl) (by kernel_rfl) (by kernel_rfl) (fun _ _ _ h => h) (Or.inl ⟨by kernel_rfl, ?_⟩) hH ?_
  rotate_left 1
  · intro wq hq; have c4 : wq.cell? ⟨β.s, 4, none⟩ = some (.int .u64 σ.cycle) := hq; first | (go_simp; done) | (go_simp; with_reducible rfl)
  simp only [Act.put, List.setIfInBounds_toArray, List.set_cons_zero, List.set_cons_succ]
  refine wpAnyH_take (i := 3) (oi := ⟨some 15, _, _, _, _, _⟩) (v := ?_) rfl (by kernel_rfl) (by kernel_rfl) (by kernel_rfl) (fun _ _ _ h => h) (Or.inl ⟨by kernel_rfl, ?_⟩) hH ?_
  rotate_left 1
  · intro wq hq; have c4 : wq.cell? ⟨β.s, 4, none⟩ = some (.int .u64 σ.cycle) := hq; first | (go_simp; done) | (go_simp; with_reducible rfl)
  simp only [Act.put, List.setIfInBounds_toArray, List.set_cons_zero, List.set_cons_succ]
  refine wpAnyH_take (i := 5) (oi := ⟨some 17, _, _, _, _, _⟩) (v := ?_) rfl (by kernel_rfl) (by kernel_rfl) (by kernel_rfl) (fun _ _ _ h => h) (Or.inl ⟨by kernel_rfl, ?_⟩) hH ?_
  rotate_left 1
  · intro wq hq; have c4 : wq.cell? ⟨β.s, 4, none⟩ = some (.int .u64 σ.cycle) := hq; first | (go_simp; done) | (go_simp; with_reducible rfl)
  simp only [Act.put, List.setIfInBounds_toArray, List.set_cons_zero, List.set_cons_succ]
  refine wpAnyH_take (i := 6) (oi := ⟨some 18, _, _, _, _, _⟩) (v := ?_) rfl (by kernel_rfl) (by kernel_rfl) (by kernel_rfl) (fun _ _ _ h => h) (Or.inl ⟨by kernel_rfl, ?_⟩) hH ?_
  rotate_left 1
  · intro wq hq; have c4 : wq.cell? ⟨β.s, 4, none⟩ = some (.int .u64 σ.cycle) := hq; first | (go_simp; done) | (go_simp; with_reducible rfl)
  simp only [Act.put, List.setIfInBounds_toArray, List.set_cons_zero, List.set_cons_succ]
  refine wpAnyH_take (i := 7) (oi := ⟨some 19, _, _, _, _, _⟩) (v := ?_) rfl (by kernel_rfl) (by kernel_rfl) (by kernel_rfl) (fun _ _ _ h => h) (Or.inl ⟨by kernel_rfl, ?_⟩) hH ?_
  rotate_left 1
  · intro wq hq; have c4 : wq.cell? ⟨β.s, 4, none⟩ = some (.int .u64 σ.cycle) := hq; first | (go_simp; done) | (go_simp; with_reducible rfl)
  simp only [Act.put, List.setIfInBounds_toArray, List.set_cons_zero, List.set_cons_succ]
  refine wpAnyH_take (i := 8) (oi := ⟨some 20, _, _, _, _, _⟩) (v := ?_) rfl (by kernel_rfl) (by kernel_rfl) (by kernel_rfl) (fun _ _ _ h => h) (Or.inl ⟨by kernel_rfl, ?_⟩) hH ?_
  rotate_left 1
  · intro wq hq; have c4 : wq.cell? ⟨β.s, 4, none⟩ = some (.int .u64 σ.cycle) := hq; first | (go_simp; done) | (go_simp; with_reducible rfl)
  simp only [Act.put, List.setIfInBounds_toArray, List.set_cons_zero, List.set_cons_succ]
  refine wpAnyH_take (i := 9) (oi := ⟨some 21, _, _, _, _, _⟩) (v := ?_) rfl (by kernel_rfl) (by kernel_rfl) (by kernel_rfl) (fun _ _ _ h => h) (Or.inl ⟨by kernel_rfl, ?_⟩) hH ?_
  rotate_left 1
  · intro wq hq; have c4 : wq.cell? ⟨β.s, 4, none⟩ = some (.int .u64 σ.cycle) := hq; first | (go_simp; done) | (go_simp; with_reducible rfl)
  simp only [Act.put, List.setIfInBounds_toArray, List.set_cons_zero, List.set_cons_succ]
  refine wpAnyH_take (i := 10) (oi := ⟨some 22, _, _, _, _, _⟩) (v := ?_) rfl (by kernel_rfl) (by kernel_rfl) (by kernel_rfl) (fun _ _ _ h => h) (Or.inl ⟨by kernel_rfl, ?_⟩) hH ?_
  rotate_left 1
  · intro wq hq; have c4 : wq.cell? ⟨β.s, 4, none⟩ = some (.int .u64 σ.cycle) := hq; first | (go_simp; done) | (go_simp; with_reducible rfl)
  simp only [Act.put, List.setIfInBounds_toArray, List.set_cons_zero, List.set_cons_succ]
  refine wpAnyH_take (i := 11) (oi := ⟨some 23, _, _, _, _, _⟩) (v := ?_) rfl (by kernel_rfl) (by kernel_rfl) (by kernel_rfl) (fun _ _ _ h => h) (Or.inl ⟨by kernel_rfl, ?_⟩) hH ?_
  rotate_left 1
  · intro wq hq; have c4 : wq.cell? ⟨β.s, 4, none⟩ = some (.int .u64 σ.cycle) := hq; first | (go_simp; done) | (go_simp; with_reducible rfl)
  simp only [Act.put, List.setIfInBounds_toArray, List.set_cons_zero, List.set_cons_succ]
  refine wpAnyH_take (i := 12) (oi := ⟨some 24, _, _, _, _, _⟩) (v := ?_) rfl (by kernel_rfl) (by kernel_rfl) (by kernel_rfl) (fun _ _ _ h => h) (Or.inl ⟨by kernel_rfl, ?_⟩) hH ?_
  rotate_left 1
  · intro wq hq; have c4 : wq.cell? ⟨β.s, 4, none⟩ = some (.int .u64 σ.cycle) := hq; first | (go_simp; done) | (go_simp; with_reducible rfl)
  simp only [Act.put, List.setIfInBounds_toArray, List.set_cons_zero, List.set_cons_succ]
  refine wpAnyH_take (i := 13) (oi := ⟨some 25, _, _, _, _, _⟩) (v := ?_) rfl (by kernel_rfl) (by kernel_rfl) (by kernel_rfl) (fun _ _ _ h => h) (Or.inl ⟨by kernel_rfl, ?_⟩) hH ?_
  rotate_left 1
  · intro wq hq; have c4 : wq.cell? ⟨β.s, 4, none⟩ = some (.int .u64 σ.cycle) := hq; first | (go_simp; done) | (go_simp; with_reducible rfl)
  simp only [Act.put, List.setIfInBounds_toArray, List.set_cons_zero, List.set_cons_succ]
  refine wpAnyH_take (i := 14) (oi := ⟨some 26, _, _, _, _, _⟩) (v := ?_) rfl (by kernel_rfl) (by kernel_rfl) (by kernel_rfl) (fun _ _ _ h => h) (Or.inl ⟨by kernel_rfl, ?_⟩) hH ?_
  rotate_left 1
  · intro wq hq; have c4 : wq.cell? ⟨β.s, 4, none⟩ = some (.int .u64 σ.cycle) := hq; first | (go_simp; done) | (go_simp; with_reducible rfl)
  simp only [Act.put, List.setIfInBounds_toArray, List.set_cons_zero, List.set_cons_succ]
  refine wpAnyH_take (i := 15) (oi := ⟨some 27, _, _, _, _, _⟩) (v := ?_) rfl (by kernel_rfl) (by kernel_rfl) (by kernel_rfl) (fun _ _ _ h => h) (Or.inl ⟨by kernel_rfl, ?_⟩) hH ?_
  rotate_left 1
  · intro wq hq; have c4 : wq.cell? ⟨β.s, 4, none⟩ = some (.int .u64 σ.cycle) := hq; first | (go_simp; done) | (go_simp; with_reducible rfl)
  simp only [Act.put, List.setIfInBounds_toArray, List.set_cons_zero, List.set_cons_succ]
  refine wpAnyH_ready (rs := [4, 16]) (by kernel_rfl) (by simp) (AllReadyH.cons (o := ⟨some 16, _, _, _, _, _⟩) rfl (fun K hK => ?_) (AllReadyH.cons (o := ⟨some 28, _, _, _, _, _⟩) rfl (fun K hK => ?_) AllReadyH.nil))
  · go_simp
    refine hK.out _ _ hH (fun hH => ?_)
    clear hK K
    try simp only [Act.put, List.setIfInBounds_toArray, List.set_cons_zero, List.set_cons_succ]
    refine wpAnyH_ready (rs := [16]) (by kernel_rfl) (by simp) (AllReadyH.cons (o := ⟨some 28, _, _, _, _, _⟩) rfl (fun K hK => ?_) AllReadyH.nil)
    go_simp
    refine hK.out _ _ (HSA.out _) (fun hH => ?_)
    clear hK K
    try simp only [Act.put, List.setIfInBounds_toArray, List.set_cons_zero, List.set_cons_succ]
    refine wpAnyH_ready (rs := [17]) (by kernel_rfl) (by simp) (AllReadyH.cons (o := ⟨some 29, _, _, _, _, _⟩) rfl (fun K hK => ?_) AllReadyH.nil)
    refine step_app6 rfl (.tmp 16) (.tmp 28) 48 rfl 0 51 (.agg #[.int .u64 0, .int .u64 0, .int .i64 0, .bool false, .int .u64 0, .bool false]) 6 48 Try.underlying48 acc_info rfl (by decide) lg σ.log.length (σ.log.flatMap Acc.vals) ?e1 (HLG.out.alloc _) w.heap.size 1 1 (Acc.vals ⟨σ.cycle, x, size, wr, v, e != 0⟩) ?e2 rfl (fun j u hu => ?e4) ?e3 HK1.out.2 HK1.out.1 (Nat.zero_le _) ?_
    case e1 => rfl
    case e2 => rfl
    case e4 => exact new_cell _ _ _ j u hu
    case e3 => simp [Acc.vals, Value.oneCell']
    intro v' w1 hown' hgrow hob
    have hgrow : (w.alloc (.cells #[.int .u64 σ.cycle, .int .u64 x, .int .i64 size, .bool wr, .int .u64 v, .bool (e != 0)] 51)).grownBy w1 lg.ownBlock := ⟨hgrow.os, hgrow.tape, hgrow.output, hgrow.size, hgrow.block⟩
    have hk := field_kept H.out.at_ (by decide) HLG.out hgrow
    have HFIN := Lib.hid (SocIs.noted H.out ⟨σ.cycle, x, size, wr, v, e != 0⟩ hown' hgrow hob)
    have c6' : w1.cell? ⟨β.s, 6, none⟩ = some lg := blk_cell hk 6
    have f6 : w1.frozen? ⟨β.s, 6, none⟩ = false := blk_frozen hk 6
    have c4' : w1.cell? ⟨β.s, 4, none⟩ = some (.int .u64 σ.cycle) := blk_cell hk 4
    obtain ⟨g', cap', rfl⟩ := ownsRow_succ hown'
    clear hown' hgrow hob hk
    refine hK.out _ _ c4' (fun hH => ?_)
    clear hK K
    try simp only [Act.put, List.setIfInBounds_toArray, List.set_cons_zero, List.set_cons_succ]
    refine wpAnyH_take (i := 18) (oi := ⟨some 30, _, _, _, _, _⟩) (v := ?_) rfl (by kernel_rfl) (by kernel_rfl) (by kernel_rfl) (fun _ _ _ h => h) (Or.inl ⟨by kernel_rfl, ?_⟩) hH ?_
    rotate_left 1
    · intro wq hq; have c4 : wq.cell? ⟨β.s, 4, none⟩ = some (.int .u64 σ.cycle) := hq; first | (go_simp; done) | (go_simp; with_reducible rfl)
    simp only [Act.put, List.setIfInBounds_toArray, List.set_cons_zero, List.set_cons_succ]
    refine wpAnyH_take (i := 19) (oi := ⟨some 31, _, _, _, _, _⟩) (v := ?_) rfl (by kernel_rfl) (by kernel_rfl) (by kernel_rfl) (fun _ _ _ h => h) (Or.inl ⟨by kernel_rfl, ?_⟩) hH ?_
    rotate_left 1
    · intro wq hq; have c4 : wq.cell? ⟨β.s, 4, none⟩ = some (.int .u64 σ.cycle) := hq; first | (go_simp; done) | (go_simp; with_reducible rfl)
    simp only [Act.put, List.setIfInBounds_toArray, List.set_cons_zero, List.set_cons_succ]
    refine wpAnyH_ready (rs := [20]) (by kernel_rfl) (by simp) (AllReadyH.cons (o := ⟨none, _, _, _, _, _⟩) rfl (fun K hK => ?_) AllReadyH.nil)
    go_simp
    refine hK.out _ _ (by rw [cell_set, if_neg (by omega)]; exact c4') (fun _ => ?_)
    clear hK K
    try simp only [Act.put, List.setIfInBounds_toArray, List.set_cons_zero, List.set_cons_succ]
    refine wpAnyH_done (by kernel_rfl) ?_ _
    go_wp2
    go_end0
    exact ⟨rfl, HFIN.out⟩
  · have hdne : ¬ β.s = w.heap.size := by have := blk_lt H.out.at_; omega
    have c6b : (w.alloc (.cells #[.int .u64 σ.cycle, .int .u64 x, .int .i64 size, .bool wr, .int .u64 v, .bool (e != 0)] 51)).cell? ⟨β.s, 6, none⟩ = some lg := (World.cell?_of_block (blk_alloc_old _ _ _ (blk_lt H.out.at_))).trans c6
    go_simp
    refine hK.out _ _ (HSA.out _) (fun hH => ?_)
    clear hK K
    try simp only [Act.put, List.setIfInBounds_toArray, List.set_cons_zero, List.set_cons_succ]
    refine wpAnyH_ready (rs := [4]) (by kernel_rfl) (by simp) (AllReadyH.cons (o := ⟨some 16, _, _, _, _, _⟩) rfl (fun K hK => ?_) AllReadyH.nil)
    go_simp
    refine hK.out _ _ hH (fun hH => ?_)
    clear hK K
    try simp only [Act.put, List.setIfInBounds_toArray, List.set_cons_zero, List.set_cons_succ]
    refine wpAnyH_ready (rs := [17]) (by kernel_rfl) (by simp) (AllReadyH.cons (o := ⟨some 29, _, _, _, _, _⟩) rfl (fun K hK => ?_) AllReadyH.nil)
    refine step_app6 rfl (.tmp 16) (.tmp 28) 48 rfl 0 51 (.agg #[.int .u64 0, .int .u64 0, .int .i64 0, .bool false, .int .u64 0, .bool false]) 6 48 Try.underlying48 acc_info rfl (by decide) lg σ.log.length (σ.log.flatMap Acc.vals) ?e1 (HLG.out.alloc _) w.heap.size 1 1 (Acc.vals ⟨σ.cycle, x, size, wr, v, e != 0⟩) ?e2 rfl (fun j u hu => ?e4) ?e3 HK1.out.2 HK1.out.1 (Nat.zero_le _) ?_
    case e1 => rfl
    case e2 => rfl
    case e4 => exact new_cell _ _ _ j u hu
    case e3 => simp [Acc.vals, Value.oneCell']
    intro v' w1 hown' hgrow hob
    have hgrow : (w.alloc (.cells #[.int .u64 σ.cycle, .int .u64 x, .int .i64 size, .bool wr, .int .u64 v, .bool (e != 0)] 51)).grownBy w1 lg.ownBlock := ⟨hgrow.os, hgrow.tape, hgrow.output, hgrow.size, hgrow.block⟩
    have hk := field_kept H.out.at_ (by decide) HLG.out hgrow
    have HFIN := Lib.hid (SocIs.noted H.out ⟨σ.cycle, x, size, wr, v, e != 0⟩ hown' hgrow hob)
    have c6' : w1.cell? ⟨β.s, 6, none⟩ = some lg := blk_cell hk 6
    have f6 : w1.frozen? ⟨β.s, 6, none⟩ = false := blk_frozen hk 6
    have c4' : w1.cell? ⟨β.s, 4, none⟩ = some (.int .u64 σ.cycle) := blk_cell hk 4
    obtain ⟨g', cap', rfl⟩ := ownsRow_succ hown'
    clear hown' hgrow hob hk
    refine hK.out _ _ c4' (fun hH => ?_)
    clear hK K
    try simp only [Act.put, List.setIfInBounds_toArray, List.set_cons_zero, List.set_cons_succ]
    refine wpAnyH_take (i := 18) (oi := ⟨some 30, _, _, _, _, _⟩) (v := ?_) rfl (by kernel_rfl) (by kernel_rfl) (by kernel_rfl) (fun _ _ _ h => h) (Or.inl ⟨by kernel_rfl, ?_⟩) hH ?_
    rotate_left 1
    · intro wq hq; have c4 : wq.cell? ⟨β.s, 4, none⟩ = some (.int .u64 σ.cycle) := hq; first | (go_simp; done) | (go_simp; with_reducible rfl)
    simp only [Act.put, List.setIfInBounds_toArray, List.set_cons_zero, List.set_cons_succ]
    refine wpAnyH_take (i := 19) (oi := ⟨some 31, _, _, _, _, _⟩) (v := ?_) rfl (by kernel_rfl) (by kernel_rfl) (by kernel_rfl) (fun _ _ _ h => h) (Or.inl ⟨by kernel_rfl, ?_⟩) hH ?_
    rotate_left 1
    · intro wq hq; have c4 : wq.cell? ⟨β.s, 4, none⟩ = some (.int .u64 σ.cycle) := hq; first | (go_simp; done) | (go_simp; with_reducible rfl)
    simp only [Act.put, List.setIfInBounds_toArray, List.set_cons_zero, List.set_cons_succ]
    refine wpAnyH_ready (rs := [20]) (by kernel_rfl) (by simp) (AllReadyH.cons (o := ⟨none, _, _, _, _, _⟩) rfl (fun K hK => ?_) AllReadyH.nil)
    go_simp
    refine hK.out _ _ (by rw [cell_set, if_neg (by omega)]; exact c4') (fun _ => ?_)
    clear hK K
    try simp only [Act.put, List.setIfInBounds_toArray, List.set_cons_zero, List.set_cons_succ]
    refine wpAnyH_done (by kernel_rfl) ?_ _
    go_wp2
    go_end0
    exact ⟨rfl, HFIN.out⟩
end Go.Proofs.Ytefcdbpmpnmkjaa
end
section
set_option linter.unusedVariables false
set_option linter.unusedSimpArgs false
namespace Go.Proofs.Ytefcdbpmpnmkjaa
open Go.RowKit
set_option maxRecDepth 100000
/-- is there such a register? -/
def clOk (off size : Int) : Bool := (off == 0 && size == 4) || (off == 16384 && size == 8) || (off == 49144 && size == 8)
def ClMay (off size : Int) (w : World) (e : Ending) (w' : World) : Prop := e = .returned (.int .i64 (if clOk off size then 0 else 6)) ∧ w = w'
theorem clint_may (b : Nat) (off size : Int) (w : World) :
    Calls Try.prog 88 #[.pointer (some ⟨b, 0, none⟩), .int .u64 off, .int .i64 size] w (ClMay off size w) := by
  have HR : Hid (∀ x : Int, (if clOk off size then (0 : Int) else 6) = x → ClMay off size w (.returned (.int .i64 x)) w) := fun x h => ⟨by rw [h], rfl⟩
  cases e1 : (off == 0) <;> cases e2 : (off == 16384) <;> cases e3 : (off == 49144) <;> cases e4 : (size == 4) <;> cases e5 : (size == 8)
  all_goals
    first
      | (exfalso; simp at e1 e2 e3 e4 e5; omega)
      | (have HV := Lib.hid (HR.out _ (by unfold clOk; rw [e1, e2, e3, e4, e5]))
         clear HR
         go_enter Try.func88, Try.ntmps88
         go_wp2
         go_ret
         exact HV.out)
def ClintS.read (c : ClintS) (off size : Int) : Nat × Int := if clOk off size then (if off = 16384 then c.cmp else if off = 49144 then c.time else if c.soft then 1 else 0, 0) else (0, 6)
def ClintS.write (c : ClintS) (off size : Int) (v : Nat) : Int × ClintS := if clOk off size then (0, if off = 16384 then { c with cmp := v } else if off = 49144 then { c with time := v } else { c with soft := v % 2 == 1 }) else (6, c)
theorem clint_read {w : World} {b : Nat} {c : ClintS} (h : ClintAt w b c) (off size : Int) :
    Calls Try.prog 86 #[.pointer (some ⟨b, 0, none⟩), .int .u64 off, .int .i64 size] w fun e w' => e = .returned (.tuple #[.int .u64 ((c.read off size).1 : Nat), .int .i64 (c.read off size).2]) ∧ w = w' := by
  have c0 : w.cell? ⟨b, 0, none⟩ = some (.bool c.soft) := blk_cell h 0
  have c1 : w.cell? ⟨b, 1, none⟩ = some (.int .u64 c.time) := blk_cell h 1
  have c2 : w.cell? ⟨b, 2, none⟩ = some (.int .u64 c.cmp) := blk_cell h 2
  have HM0 := Lib.hid (clint_may b off size w)
  clear h
  cases ho : clOk off size with
  | false =>
    have HF : Hid (c.read off size = (0, 6)) := by show _ = _; unfold ClintS.read; rw [ho]; rfl
    have HM : Hid (Calls Try.prog 88 #[.pointer (some ⟨b, 0, none⟩), .int .u64 off, .int .i64 size] w fun e w' => e = .returned (.int .i64 6) ∧ w = w') := HM0.out.mono fun e w' ⟨h, hw⟩ => ⟨by rw [h, ho]; rfl, hw⟩
    clear ho HM0
    go_enter Try.func86, Try.ntmps86
    go_wp2_with fail
    refine HM.out.mono ?_
    rintro e w' ⟨rfl, rfl⟩
    go_wp2
    go_ret2
    exact ⟨by rw [HF.out]; rfl, rfl⟩
  | true =>
    have HF : Hid (c.read off size = (if off = 16384 then c.cmp else if off = 49144 then c.time else if c.soft then 1 else 0, 0)) := by show _ = _; unfold ClintS.read; rw [ho]; rfl
    have HM : Hid (Calls Try.prog 88 #[.pointer (some ⟨b, 0, none⟩), .int .u64 off, .int .i64 size] w fun e w' => e = .returned (.int .i64 0) ∧ w = w') := HM0.out.mono fun e w' ⟨h, hw⟩ => ⟨by rw [h, ho]; rfl, hw⟩
    clear HM0
    by_cases h1 : off = 16384
    · subst h1
      clear ho
      go_enter Try.func86, Try.ntmps86
      go_wp2_with fail
      refine HM.out.mono ?_
      rintro e w' ⟨rfl, rfl⟩
      go_wp2
      go_ret2
      exact ⟨by rw [HF.out]; rfl, rfl⟩
    · have e1 : (off == 16384) = false := by simpa using h1
      rw [if_neg h1] at HF
      by_cases h2 : off = 49144
      · subst h2
        clear ho
        go_enter Try.func86, Try.ntmps86
        go_wp2_with fail
        refine HM.out.mono ?_
        rintro e w' ⟨rfl, rfl⟩
        go_wp2
        go_ret2
        exact ⟨by rw [HF.out]; rfl, rfl⟩
      · have e2 : (off == 49144) = false := by simpa using h2
        rw [if_neg h2] at HF
        clear ho h1 h2
        cases hs : c.soft
        · rw [hs] at c0 HF
          clear hs
          go_enter Try.func86, Try.ntmps86
          go_wp2_with fail
          refine HM.out.mono ?_
          rintro e w' ⟨rfl, rfl⟩
          go_wp2
          go_ret2
          exact ⟨by rw [HF.out]; rfl, rfl⟩
        · rw [hs] at c0 HF
          clear hs
          go_enter Try.func86, Try.ntmps86
          go_wp2_with fail
          refine HM.out.mono ?_
          rintro e w' ⟨rfl, rfl⟩
          go_wp2
          go_ret2
          exact ⟨by rw [HF.out]; rfl, rfl⟩
theorem and1 (v : Nat) (hv : v < 2 ^ 64) : (bits .and .u64 (v : Int) 1 != 0) = (v % 2 == 1) := by
  have e : bits .and .u64 (v : Int) 1 = ((v % 2 : Nat) : Int) := by
    show IntKind.u64.wrap ((BitVec.ofInt 64 (v : Int) &&& BitVec.ofInt 64 1).toNat : Int) = _
    have e2 : ∀ q : Nat, q < 2 ^ 64 → (BitVec.ofInt 64 (q : Int)).toNat = q := fun q hq => by simp; omega
    have e1 : (BitVec.ofInt 64 1).toNat = 2 ^ 1 - 1 := by decide
    rw [BitVec.toNat_and, e2 v hv, e1, Nat.and_two_pow_sub_one_eq_mod, IntKind.wrap_u64]
    omega
  rw [e]
  have : v % 2 = 0 ∨ v % 2 = 1 := by omega
  rcases this with h | h <;> rw [h] <;> rfl
theorem clint_write {w : World} {b : Nat} {c : ClintS} (h : ClintAt w b c) (off size : Int) (v : Nat) (hv : v < 2 ^ 64) :
    Calls Try.prog 87 #[.pointer (some ⟨b, 0, none⟩), .int .u64 off, .int .i64 size, .int .u64 v] w fun e w' => e = .returned (.int .i64 (c.write off size v).1) ∧ ClintSet w b (c.write off size v).2 w' := by
  have c0 : w.cell? ⟨b, 0, none⟩ = some (.bool c.soft) := blk_cell h 0
  have c1 : w.cell? ⟨b, 1, none⟩ = some (.int .u64 c.time) := blk_cell h 1
  have c2 : w.cell? ⟨b, 2, none⟩ = some (.int .u64 c.cmp) := blk_cell h 2
  have f0 : w.frozen? ⟨b, 0, none⟩ = false := blk_frozen h 0
  have f1 : w.frozen? ⟨b, 1, none⟩ = false := blk_frozen h 1
  have f2 : w.frozen? ⟨b, 2, none⟩ = false := blk_frozen h 2
  have HM0 := Lib.hid (clint_may b off size w)
  have HA := Lib.hid (and1 v hv)
  have H := Lib.hid h
  clear h hv
  cases ho : clOk off size with
  | false =>
    have HF : Hid (c.write off size v = (6, c)) := by show _ = _; unfold ClintS.write; rw [ho]; rfl
    have HM : Hid (Calls Try.prog 88 #[.pointer (some ⟨b, 0, none⟩), .int .u64 off, .int .i64 size] w fun e w' => e = .returned (.int .i64 6) ∧ w = w') := HM0.out.mono fun e w' ⟨h, hw⟩ => ⟨by rw [h, ho]; rfl, hw⟩
    clear ho HM0
    go_enter Try.func87, Try.ntmps87
    go_wp2_with fail
    refine HM.out.mono ?_
    rintro e w' ⟨rfl, rfl⟩
    go_wp2
    go_ret
    rw [HF.out]
    exact ⟨rfl, H.out, Turned.refl _ _⟩
  | true =>
    have HF : Hid (c.write off size v = (0, if off = 16384 then { c with cmp := v } else if off = 49144 then { c with time := v } else { c with soft := v % 2 == 1 })) := by show _ = _; unfold ClintS.write; rw [ho]; rfl
    have HM : Hid (Calls Try.prog 88 #[.pointer (some ⟨b, 0, none⟩), .int .u64 off, .int .i64 size] w fun e w' => e = .returned (.int .i64 0) ∧ w = w') := HM0.out.mono fun e w' ⟨h, hw⟩ => ⟨by rw [h, ho]; rfl, hw⟩
    clear HM0
    by_cases h1 : off = 16384
    · subst h1
      clear ho
      go_enter Try.func87, Try.ntmps87
      go_wp2_with fail
      refine HM.out.mono ?_
      rintro e w' ⟨rfl, rfl⟩
      go_wp2
      go_ret
      rw [HF.out]
      exact ⟨rfl, blk_set H.out 2 _, (Turned.refl (· = b) w).set (.inl rfl) _ _⟩
    · have e1 : (off == 16384) = false := by simpa using h1
      rw [if_neg h1] at HF
      by_cases h2 : off = 49144
      · subst h2
        clear ho
        go_enter Try.func87, Try.ntmps87
        go_wp2_with fail
        refine HM.out.mono ?_
        rintro e w' ⟨rfl, rfl⟩
        go_wp2
        go_ret
        rw [HF.out]
        exact ⟨rfl, blk_set H.out 1 _, (Turned.refl (· = b) w).set (.inl rfl) _ _⟩
      · have e2 : (off == 49144) = false := by simpa using h2
        rw [if_neg h2] at HF
        have h3 : off = 0 := by
          unfold clOk at ho
          simp [e1, e2] at ho
          exact ho.1
        subst h3
        clear ho h1 h2
        go_enter Try.func87, Try.ntmps87
        go_wp2_with fail
        refine HM.out.mono ?_
        rintro e w' ⟨rfl, rfl⟩
        go_wp2
        rw [HA.out]
        go_ret
        rw [HF.out]
        exact ⟨rfl, blk_set H.out 0 _, (Turned.refl (· = b) w).set (.inl rfl) _ _⟩
end Go.Proofs.Ytefcdbpmpnmkjaa
end
section
set_option linter.unusedVariables false
set_option linter.unusedSimpArgs false
namespace Go.Proofs.Ytefcdbpmpnmkjaa
open Go.RowKit
set_option maxRecDepth 100000
theorem soc_at2 (c0 p0 u0 : Nat) (w : World) : Calls Try.prog 27 #[.agg #[.pointer (some ⟨c0, 0, none⟩), .pointer (some ⟨p0, 0, none⟩), .pointer (some ⟨u0, 0, none⟩)], .int .i64 2] w fun e w' => e = .returned (.tuple #[.iface 66 (.pointer (some ⟨c0, 0, none⟩)), .bool true]) ∧ Below w.heap.size w w' := by
  go_enter Try.func27, Try.ntmps27
  go_wp2
  go_ret2
  exact ⟨rfl, (Below.refl _ _).alloc (Nat.le_refl _) _⟩
theorem soc_at3 (c0 p0 u0 : Nat) (w : World) : Calls Try.prog 27 #[.agg #[.pointer (some ⟨c0, 0, none⟩), .pointer (some ⟨p0, 0, none⟩), .pointer (some ⟨u0, 0, none⟩)], .int .i64 3] w fun e w' => e = .returned (.tuple #[.iface 68 (.pointer (some ⟨p0, 0, none⟩)), .bool true]) ∧ Below w.heap.size w w' := by
  go_enter Try.func27, Try.ntmps27
  go_wp2
  go_ret2
  exact ⟨rfl, (Below.refl _ _).alloc (Nat.le_refl _) _⟩
theorem soc_at4 (c0 p0 u0 : Nat) (w : World) : Calls Try.prog 27 #[.agg #[.pointer (some ⟨c0, 0, none⟩), .pointer (some ⟨p0, 0, none⟩), .pointer (some ⟨u0, 0, none⟩)], .int .i64 4] w fun e w' => e = .returned (.tuple #[.iface 70 (.pointer (some ⟨u0, 0, none⟩)), .bool true]) ∧ Below w.heap.size w w' := by
  go_enter Try.func27, Try.ntmps27
  go_wp2
  go_ret2
  exact ⟨rfl, (Below.refl _ _).alloc (Nat.le_refl _) _⟩
theorem soc_at0 (k : Int) (h2 : (k == 2) = false) (h3 : (k == 3) = false) (h4 : (k == 4) = false) (c0 p0 u0 : Nat) (w : World) : Calls Try.prog 27 #[.agg #[.pointer (some ⟨c0, 0, none⟩), .pointer (some ⟨p0, 0, none⟩), .pointer (some ⟨u0, 0, none⟩)], .int .i64 k] w fun e w' => e = .returned (.tuple #[.nilIface, .bool false]) ∧ Below w.heap.size w w' := by
  go_enter Try.func27, Try.ntmps27
  go_wp2
  go_ret2
  exact ⟨rfl, (Below.refl _ _).alloc (Nat.le_refl _) _⟩
end Go.Proofs.Ytefcdbpmpnmkjaa
end
