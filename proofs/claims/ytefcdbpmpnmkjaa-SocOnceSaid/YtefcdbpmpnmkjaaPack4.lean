/- Contract of the uart's State: the bytes that wait, in order, and the bytes sent, in lists of its own. Contracts of the clint. No condition. Contract of the soc's Tick. No condition. -/
import Derived.Test.YtefcdbpmpnmkjaaPack3
import Derived.StillTailTactics
import Derived.BigRegion
import Derived.Maps.OwnIn
import Derived.RangeFuncBox
import Derived.Deep.RegionWith
import Derived.Deep.RegionHeld3
import Derived.Deep.RegionLaw
import Derived.Deep.QuietTactic
import Derived.BigQuiet
import Derived.Deep.DeepFit
import Derived.Deep.DeepMust
import Derived.Deep.LoopGhost
import Derived.Handy
section
set_option linter.unusedVariables false
set_option linter.unusedSimpArgs false
namespace Go.Proofs.Ytefcdbpmpnmkjaa
open Go.RowKit
set_option maxRecDepth 100000
attribute [local go_sem ↓] ld_dev ld_plc st_dev st_plc
attribute [local go_sem] rl_dev rl_plc rs_dev rs_plc Dev.size_cells Dev.st_ok row_alloc row_drew row_drewN is_alloc is_drew is_drewN row_setCell is_setCell setRow_alloc_new objRow_cells objIs_cells row_setRow_same row_setRow_other is_setRow_same is_setRow_other
theorem own_mono {w : World} {base base' : Nat} {e : TypeId} {size : Nat} {v : Value} {n : Nat} {xs : List Value} (h : w.ownsRow base e size v n xs) (hb : base' ≤ base) : w.ownsRow base' e size v n xs := by
  obtain ⟨h1, h2 | ⟨g, cap, cur, h3, h4, h5⟩⟩ := h
  · exact ⟨h1, .inl h2⟩
  · exact ⟨h1, .inr ⟨g, cap, cur, h3, Nat.le_trans hb h4, h5⟩⟩
theorem own_ge {w : World} {base : Nat} {e : TypeId} {size : Nat} {v : Value} {n : Nat} {xs : List Value} (h : w.ownsRow base e size v n xs) {g : Nat} (hg : v.ownBlock = some g) : base ≤ g := by
  obtain ⟨_, ⟨rfl, _⟩ | ⟨g', cap, cur, rfl, h4, _⟩⟩ := h
  · cases hg
  · cases hg; exact h4
theorem own_form {w : World} {base : Nat} {e : TypeId} {size : Nat} {v : Value} {n : Nat} {xs : List Value} (h : w.ownsRow base e size v n xs) : ∃ a c, v = .slice a n c := by
  obtain ⟨_, ⟨rfl, rfl⟩ | ⟨g, cap, cur, rfl, _⟩⟩ := h
  · exact ⟨none, 0, rfl⟩
  · exact ⟨_, _, rfl⟩
def stateDev (u : UartS) (ra : Option Addr) (rl rc : Nat) (ta : Option Addr) (tl tc : Nat) : Dev := ⟨false, 0, 0, fun _ => 0, 0, 0, fun _ => 0, fun _ => 0, 0, ra, rl, rc, ta, tl, tc, u.on, u.lost⟩
def StateB (w : World) (b : Nat) (u : UartS) (sn : Value) (s3 : Value) (wx : World) : Prop := ∃ dB ta tc, s3 = .pointer (some ⟨dB, 0, none⟩) ∧ wx.heap[dB]? = some (.cells (stateDev u none 0 0 ta u.sent.length tc).cells 57 (0, 0)) ∧ wx.ownsRow w.heap.size 5 1 (.slice ta u.sent.length tc) u.sent.length (u.sent.map (Value.int .u8)) ∧ wx.heap[w.heap.size]? = some (.cells dev0.cells 57 (0, 0)) ∧ dB ≠ w.heap.size ∧ w.heap.size ≤ dB ∧ Below w.heap.size w wx
def StateS (w : World) (b : Nat) (u : UartS) (sn : Value) (wq : World) : Prop := wq.heap[b]? = some (.cells (u.cells sn) 107 (0, 0)) ∧ wq.heap[w.heap.size]? = some (.cells dev0.cells 57 (0, 0))
theorem StateS.below {w wq w' : World} {b : Nat} {u : UartS} {sn : Value} (h : StateS w b u sn wq) (hb : Below wq.heap.size wq w') : StateS w b u sn w' := ⟨(hb.block b (blk_lt h.1)).trans h.1, (hb.block _ (blk_lt h.2)).trans h.2⟩
theorem StateS.alloc {w wq : World} {b : Nat} {u : UartS} {sn : Value} (h : StateS w b u sn wq) (o : Obj) : StateS w b u sn (wq.alloc o) := h.below ((Below.refl _ _).alloc (Nat.le_refl _) o)
theorem StateS.lt {w wq : World} {b : Nat} {u : UartS} {sn : Value} (h : StateS w b u sn wq) : b < wq.heap.size ∧ w.heap.size < wq.heap.size := ⟨blk_lt h.1, blk_lt h.2⟩
theorem StateS.row {w wq : World} {b g : Nat} {u : UartS} {sn : Value} (h : StateS w b u sn wq) (hg : b < g ∧ w.heap.size < g) (C : Array Value) : StateS w b u sn (wq.setRow g C) := ⟨(setRow_other _ _ _ _ (by omega)).trans h.1, (setRow_other _ _ _ _ (by omega)).trans h.2⟩
theorem UartAt.alloc' {w : World} {b : Nat} {u : UartS} {sn : Value} (h : UartAt w b u sn) (o : Obj) : UartAt (w.alloc o) b u sn := ⟨(blk_alloc_old _ _ _ (blk_lt h.1)).trans h.1, h.2.alloc o⟩
theorem stateB_1 {w wd w2 : World} {b : Nat} {u : UartS} {sn : Value} {ta : Option Addr} {tc : Nat} (hb : Below w.heap.size w w2) (hs : w.heap.size ≤ wd.heap.size) (hv : w2.ownsRow wd.heap.size 5 1 (.slice ta u.sent.length tc) u.sent.length (u.sent.map (Value.int .u8))) (hS : StateS w b u sn w2) :
    StateB w b u sn (.pointer (some ⟨w2.heap.size, 0, none⟩)) (w2.alloc (.cells (stateDev u none 0 0 ta u.sent.length tc).cells 57)) := by
  have hlt := hS.lt
  exact ⟨w2.heap.size, ta, tc, rfl, blk_alloc _ _, (own_mono hv hs).alloc _, (blk_alloc_old _ _ _ hlt.2).trans hS.2, by omega, by omega, hb.alloc hb.size _⟩
theorem stateB_2 {w wd w2 : World} {b : Nat} {u : UartS} {sn : Value} {ta : Option Addr} {tc : Nat} (hb : Below w.heap.size w wd) (hw : Below (wd.alloc (.cells dev0.cells 57)).heap.size (wd.alloc (.cells dev0.cells 57)) w2) (hv : w2.ownsRow (wd.alloc (.cells dev0.cells 57)).heap.size 5 1 (.slice ta u.sent.length tc) u.sent.length (u.sent.map (Value.int .u8))) (hS : StateS w b u sn w2)
    (hd : w2.heap[wd.heap.size]? = some (.cells dev0.cells 57 (0, 0))) (hlt : b < wd.heap.size ∧ w.heap.size < wd.heap.size) :
    StateB w b u sn (.pointer (some ⟨wd.heap.size, 0, none⟩)) (w2.setRow wd.heap.size (stateDev u none 0 0 ta u.sent.length tc).cells) := by
  have hb2 : Below w.heap.size w w2 := (hb.alloc hb.size _).trans (hw.mono (by simp; omega))
  refine ⟨wd.heap.size, ta, tc, rfl, setRow_heap _ _ _ _ _ _ hd, ?_, (setRow_other _ _ _ _ (by omega)).trans hS.2, by omega, by omega, below_setRow hb2 hb.size _⟩
  refine own_turned (S := (· = wd.heap.size)) (own_mono hv (by simp; omega)) ⟨rfl, rfl, rfl, by simp [World.setRow], fun q hq hn => setRow_other _ _ q _ hn⟩ fun g hg e => ?_
  have e : g = wd.heap.size := e
  have := own_ge hv hg
  simp at this
  omega
/-- the bytes that wait -/
def UartS.rx (u : UartS) (k : Nat) : List Int := (List.range k).map fun i => (u.ring ((u.head + i) % 8) : Int)
theorem UartS.rx_len (u : UartS) (k : Nat) : (u.rx k).length = k := by simp [UartS.rx]
theorem UartS.rx_succ (u : UartS) (k : Nat) : u.rx (k + 1) = u.rx k ++ [(u.ring ((u.head + k) % 8) : Int)] := by simp [UartS.rx, List.range_succ]
theorem StateL.kept {w wr : World} {b : Nat} {u : UartS} {sn : Value} {ra : Option Addr} {k rc j : Nat} (hL : b < w.heap.size) (hu : wr.heap[b]? = some (.cells (u.cells sn) 107 (0, 0))) (hrx : wr.ownsRow w.heap.size 5 1 (.slice ra k rc) k ((u.rx k).map (Value.int .u8)))
    (c8 : wr.cell? ⟨b, 8, none⟩ = some (.int .i64 u.head)) (cj : wr.cell? ⟨b, j, none⟩ = some (.int .u8 (u.ring j))) (v' : Value) (w1 : World) {tmp : Obj} {ys : List Value} (_ : w1.ownsRow w.heap.size 5 1 v' (k + 1) ys) (hgrow : (wr.alloc tmp).grownBy w1 (Value.slice ra k rc).ownBlock) :
    w1.cell? ⟨b, 8, none⟩ = some (.int .i64 u.head) ∧ w1.cell? ⟨b, j, none⟩ = some (.int .u8 (u.ring j)) := by
  have h := field_kept hu (by decide) hrx hgrow
  have e : w1.heap[b]? = wr.heap[b]? := h.trans hu.symm
  exact ⟨(World.cell?_of_block e).trans c8, (World.cell?_of_block e).trans cj⟩
theorem step_app_at {P : Program} {w : World} {ops : Array Oper} {o : Oper} {a : Act} {K : Act → World → Prop} {Q : Exit → Act → World → Prop} {E : Prop} (hgd : o.guard = none) (s x : Operand) (t : TypeId)
    (ho : o.op = .call { callee := .builtin .append, args := #[s, x], argTypes := #[t, t] })
    (base : Nat) (e : TypeId) (z : Value) (bytes : Nat) (ht : P.underlying t = some (.slice e)) (hinfo : (P.info? e).map (fun i => (i.zero, i.size, i.bytes)) = some (some z, 1, bytes)) (hz1 : z.cells = #[z])
    (v : Value) (n : Nat) (xs : List Value) (hs : a.eval s = v) (hown : w.ownsRow base e 1 v n xs)
    (b m c : Nat) (news : List Value) (hx : a.eval x = .slice (some ⟨b, 0, none⟩) m c) (hl : news.length = m * 1) (hc : ∀ j u, news[j]? = some u → w.cell? ((⟨b, 0, none⟩ : Addr).add j) = some u) (h1 : ∀ u ∈ news, u.oneCell' = true)
    (hbytes : (n + m) * bytes ≤ 140737488355328) (h63 : n + m ≤ maxLen) (hbase : base ≤ w.heap.size)
    (h : ∀ v' w', w'.ownsRow base e 1 v' (n + m) (xs ++ news) → w.grownBy w' v.ownBlock → (v'.ownBlock = v.ownBlock ∨ v'.ownBlock = some w.heap.size) → K (a.put o.dst v') w') : if Region.wanted o (yielded ops a.tmps) = true then Oper.wp P o a w K Q else E := by
  have hw : Region.wanted o (yielded ops a.tmps) = true := by simp [Region.wanted, hgd]
  rw [if_pos hw]
  obtain ⟨i, hi, hzz⟩ := Option.map_eq_some_iff.1 hinfo
  simp only [Prod.mk.injEq] at hzz
  obtain ⟨hz, hsz, hb⟩ := hzz
  unfold Oper.wp execOp
  obtain ⟨v', w', hr, h2, h3, _, h5⟩ := run_append_own_at (P := P) (w := w) base t o.type e i z 1 bytes ht hi hz hsz hb (by simp [hz1]) (by omega) v n xs hown ⟨b, 0, none⟩ m c news hl hc h1 h63 hbytes hbase
  simp only [ho, resolve, invoke, builtin, Sem.run_bind, Sem.run_pure, Result.andThen_ok, List.map_toArray, List.map_cons, List.map_nil, hs, hx, hr]
  exact h v' w' h2 h3 h5
def StateL (w : World) (b : Nat) (u : UartS) (sn : Value) (dB : Nat) (ta : Option Addr) (tc k : Nat) (wr : World) : Prop := ∃ ra rc, wr.heap[b]? = some (.cells (u.cells sn) 107 (0, 0)) ∧ wr.heap[dB]? = some (.cells (stateDev u ra k rc ta u.sent.length tc).cells 57 (0, 0)) ∧ wr.ownsRow w.heap.size 5 1 (.slice ra k rc) k ((u.rx k).map (Value.int .u8)) ∧ wr.ownsRow w.heap.size 5 1 (.slice ta u.sent.length tc) u.sent.length (u.sent.map (Value.int .u8)) ∧ wr.heap[w.heap.size]? = some (.cells dev0.cells 57 (0, 0)) ∧ (∀ g, (Value.slice ra k rc).ownBlock = some g → (Value.slice ta u.sent.length tc).ownBlock ≠ some g) ∧ Below w.heap.size w wr
theorem turned_below {w wr W : World} {B : Nat} {S : Nat → Prop} (h : Below B w wr) (ht : Turned S wr W) (hS : ∀ g, S g → B ≤ g) (hB : B ≤ wr.heap.size) : Below B w W :=
  ⟨ht.os.trans h.os, ht.tape.trans h.tape, ht.output.trans h.output, Nat.le_trans h.size ht.size, fun g hg => (ht.block g (by omega) (fun e => by have := hS g e; omega)).trans (h.block g hg)⟩
theorem StateL.next {w wr : World} {b : Nat} {u : UartS} {sn : Value} {dB : Nat} {ta ra : Option Addr} {tc k rc : Nat} (hL : b < w.heap.size) (hne : dB ≠ w.heap.size) (hge : w.heap.size ≤ dB)
    (hu : wr.heap[b]? = some (.cells (u.cells sn) 107 (0, 0))) (hd : wr.heap[dB]? = some (.cells (stateDev u ra k rc ta u.sent.length tc).cells 57 (0, 0))) (hrx : wr.ownsRow w.heap.size 5 1 (.slice ra k rc) k ((u.rx k).map (Value.int .u8))) (htx : wr.ownsRow w.heap.size 5 1 (.slice ta u.sent.length tc) u.sent.length (u.sent.map (Value.int .u8))) (hr : wr.heap[w.heap.size]? = some (.cells dev0.cells 57 (0, 0))) (hap : ∀ g, (Value.slice ra k rc).ownBlock = some g → (Value.slice ta u.sent.length tc).ownBlock ≠ some g) (hb : Below w.heap.size w wr)
    (j : Nat) (hj : j = (u.head + k) % 8) (v' : Value) (w1 : World) {tmp : Obj} (hown' : w1.ownsRow w.heap.size 5 1 v' (k + 1) ((u.rx k).map (Value.int .u8) ++ [.int .u8 (u.ring j)])) (hgrow : (wr.alloc tmp).grownBy w1 (Value.slice ra k rc).ownBlock) (hob : v'.ownBlock = (Value.slice ra k rc).ownBlock ∨ v'.ownBlock = some (wr.alloc tmp).heap.size) :
    StateL w b u sn dB ta tc (k + 1) (w1.setCell ⟨dB, 18, none⟩ v') := by
  obtain ⟨q1, q2, q3, q4⟩ := field_appended hd (by decide) hrx hown' hgrow hob 18
  obtain ⟨g', cap', rfl⟩ := ownsRow_succ hown'
  have hrow : ∀ g, (Value.slice ra k rc).ownBlock = some g → w.heap.size ≤ g := fun g hg => own_ge hrx hg
  have hlt := blk_lt hd
  have hltr := blk_lt hr
  refine ⟨_, _, ?_, q1, ?_, ?_, ?_, fun g hg hx => ?_, turned_below hb q3 (fun g hg => ?_) (by omega)⟩
  · exact q3.keep (by rintro (e | e); · omega
                      · have := hrow _ e; omega) hu
  · rw [UartS.rx_succ, List.map_append, ← hj]; exact q2
  · refine own_turned htx q3 fun g hg hx => ?_
    obtain ⟨C, hC⟩ := own_cells htx hg
    rcases hx with e | e
    · exact type_ne hC hd (by decide) e
    · exact hap g e hg
  · exact q3.keep (by rintro (e | e); · omega
                      · obtain ⟨C, hC⟩ := own_cells hrx e
                        exact type_ne hC hr (by decide) rfl) hr
  · obtain ⟨C, hC⟩ := own_cells htx hx
    have := blk_lt hC
    rcases q4 g hg with e | e
    · exact hap g e hx
    · omega
  · rcases hg with e | e
    · omega
    · exact hrow g e
/-- what State hands back: the uart's part of the devices' state, with two lists of bytes of its own -/
def StateIs (w : World) (u : UartS) (e : Ending) (w' : World) : Prop := ∃ ra rc ta tc, e = .returned (.agg (stateDev u ra u.n rc ta u.sent.length tc).cells) ∧ w'.ownsRow w.heap.size 5 1 (.slice ra u.n rc) u.n ((u.rx u.n).map (Value.int .u8)) ∧ w'.ownsRow w.heap.size 5 1 (.slice ta u.sent.length tc) u.sent.length (u.sent.map (Value.int .u8)) ∧ (∀ g, (Value.slice ra u.n rc).ownBlock = some g → (Value.slice ta u.sent.length tc).ownBlock ≠ some g) ∧ Below w.heap.size w w'
theorem stateTo {w wr : World} {u : UartS} {dB : Nat} {ta ra : Option Addr} {tc k rc : Nat} (hne : dB ≠ w.heap.size) (hge : w.heap.size ≤ dB)
    (hd : wr.heap[dB]? = some (.cells (stateDev u ra k rc ta u.sent.length tc).cells 57 (0, 0))) (hrx : wr.ownsRow w.heap.size 5 1 (.slice ra k rc) k ((u.rx k).map (Value.int .u8))) (htx : wr.ownsRow w.heap.size 5 1 (.slice ta u.sent.length tc) u.sent.length (u.sent.map (Value.int .u8))) (hr : wr.heap[w.heap.size]? = some (.cells dev0.cells 57 (0, 0))) (hap : ∀ g, (Value.slice ra k rc).ownBlock = some g → (Value.slice ta u.sent.length tc).ownBlock ≠ some g) (hb : Below w.heap.size w wr) (hk : k = u.n) (C : Array Value) :
    StateIs w u (.returned (.agg (stateDev u ra k rc ta u.sent.length tc).cells)) (wr.setRow w.heap.size C) := by
  subst hk
  have ht : Turned (· = w.heap.size) wr (wr.setRow w.heap.size C) := ⟨rfl, rfl, rfl, by simp [World.setRow], fun q hq hn => setRow_other _ _ q _ hn⟩
  refine ⟨_, _, _, _, rfl, own_turned hrx ht fun g hg e => ?_, own_turned htx ht fun g hg e => ?_, hap, below_setRow hb (Nat.le_refl _) _⟩
  · obtain ⟨C, hC⟩ := own_cells hrx hg
    exact type_ne hC hr (by decide) e
  · obtain ⟨C, hC⟩ := own_cells htx hg
    exact type_ne hC hr (by decide) e
set_option maxHeartbeats 4000000 in
theorem uart_state {w : World} {b : Nat} {u : UartS} {sn : Value} (h : UartAt w b u sn) (hok : u.Ok) (hs : u.sent.length < 1000000) :
    Calls Try.prog 48 #[.pointer (some ⟨b, 0, none⟩)] w (StateIs w u) := by
  have HSENT := Lib.hid (fun (W : World) (hW : UartAt W b u sn) => uart_sent hW hs)
  have HB0 : Hid (Below w.heap.size w (w.alloc (.cells dev0.cells 57))) := (Below.refl _ w).alloc (Nat.le_refl _) _
  have HU00 : Hid (UartAt (w.alloc (.cells dev0.cells 57)) b u sn) := ⟨(HB0.out.block b (blk_lt h.1)).trans h.1, own_below h.2 HB0.out⟩
  have HR00 : Hid ((w.alloc (.cells dev0.cells 57)).heap[w.heap.size]? = some (.cells dev0.cells 57 (0, 0))) := blk_alloc _ _
  have HL : Hid (b < w.heap.size) := blk_lt h.1
  have HUW : Hid (w.heap[b]? = some (.cells (u.cells sn) 107 (0, 0))) := h.1
  have HOK := Lib.hid hok
  clear h hok hs
  go_enter Try.func48, Try.ntmps48
  go_wp2_with fail
  obtain ⟨w0, hw0⟩ : ∃ w0, w.alloc (.cells dev0.cells 57) = w0 := ⟨_, rfl⟩
  change Code.wp _ _ _ _ (w.alloc (.cells dev0.cells 57))
  rw [hw0] at HB0 HU00 HR00 ⊢
  clear hw0
  go_cut [3] (fun s3 wx => StateB w b u sn s3 wx)
  case first =>
    have HU0 : Hid (UartAt w0.drew b u sn) := HU00.out
    have HS0 : Hid (StateS w b u sn w0.drew) := ⟨HU00.out.1, HR00.out⟩
    have HBD : Hid (Below w.heap.size w w0.drew) := HB0.out.drew
    refine wp_region_held_drew (S := StateS w b u sn) (by kernel_rfl) HS0.out (fun hH => ?_)
    have hsz : w0.heap.size = w0.drew.heap.size := rfl
    generalize w0.drew = wd at *
    have HSZ := Lib.hid hsz
    clear hsz
    refine wpAnyH_take (i := 0) (oi := ⟨some 8, _, _, _, _, _⟩) (v := ?_) rfl (by kernel_rfl) (by kernel_rfl) (by kernel_rfl) (fun _ _ _ h => h) (Or.inl ⟨by kernel_rfl, ?_⟩) hH ?_
    rotate_left 1
    · intro wq hq; obtain ⟨hq1, hq2⟩ := hq; have c11 : wq.cell? ⟨b, 11, none⟩ = some (.int .u32 u.on) := blk_cell hq1 11; have c12 : wq.cell? ⟨b, 12, none⟩ = some (.bool u.lost) := blk_cell hq1 12; clear hq1 hq2; first | (go_simp; done) | (go_simp; with_reducible rfl)
    simp only [Act.put, List.setIfInBounds_toArray, List.set_cons_zero, List.set_cons_succ]
    refine wpAnyH_take (i := 2) (oi := ⟨some 10, _, _, _, _, _⟩) (v := ?_) rfl (by kernel_rfl) (by kernel_rfl) (by kernel_rfl) (fun _ _ _ h => h) (Or.inl ⟨by kernel_rfl, ?_⟩) hH ?_
    rotate_left 1
    · intro wq hq; obtain ⟨hq1, hq2⟩ := hq; have c11 : wq.cell? ⟨b, 11, none⟩ = some (.int .u32 u.on) := blk_cell hq1 11; have c12 : wq.cell? ⟨b, 12, none⟩ = some (.bool u.lost) := blk_cell hq1 12; clear hq1 hq2; first | (go_simp; done) | (go_simp; with_reducible rfl)
    simp only [Act.put, List.setIfInBounds_toArray, List.set_cons_zero, List.set_cons_succ]
    refine wpAnyH_take (i := 3) (oi := ⟨some 11, _, _, _, _, _⟩) (v := ?_) rfl (by kernel_rfl) (by kernel_rfl) (by kernel_rfl) (fun _ _ _ h => h) (Or.inl ⟨by kernel_rfl, ?_⟩) hH ?_
    rotate_left 1
    · intro wq hq; obtain ⟨hq1, hq2⟩ := hq; have c11 : wq.cell? ⟨b, 11, none⟩ = some (.int .u32 u.on) := blk_cell hq1 11; have c12 : wq.cell? ⟨b, 12, none⟩ = some (.bool u.lost) := blk_cell hq1 12; clear hq1 hq2; first | (go_simp; done) | (go_simp; with_reducible rfl)
    simp only [Act.put, List.setIfInBounds_toArray, List.set_cons_zero, List.set_cons_succ]
    refine wpAnyH_take (i := 4) (oi := ⟨some 12, _, _, _, _, _⟩) (v := ?_) rfl (by kernel_rfl) (by kernel_rfl) (by kernel_rfl) (fun _ _ _ h => h) (Or.inl ⟨by kernel_rfl, ?_⟩) hH ?_
    rotate_left 1
    · intro wq hq; obtain ⟨hq1, hq2⟩ := hq; have c11 : wq.cell? ⟨b, 11, none⟩ = some (.int .u32 u.on) := blk_cell hq1 11; have c12 : wq.cell? ⟨b, 12, none⟩ = some (.bool u.lost) := blk_cell hq1 12; clear hq1 hq2; first | (go_simp; done) | (go_simp; with_reducible rfl)
    simp only [Act.put, List.setIfInBounds_toArray, List.set_cons_zero, List.set_cons_succ]
    refine wpAnyH_take (i := 5) (oi := ⟨some 13, _, _, _, _, _⟩) (v := ?_) rfl (by kernel_rfl) (by kernel_rfl) (by kernel_rfl) (fun _ _ _ h => h) (Or.inl ⟨by kernel_rfl, ?_⟩) hH ?_
    rotate_left 1
    · intro wq hq; obtain ⟨hq1, hq2⟩ := hq; have c11 : wq.cell? ⟨b, 11, none⟩ = some (.int .u32 u.on) := blk_cell hq1 11; have c12 : wq.cell? ⟨b, 12, none⟩ = some (.bool u.lost) := blk_cell hq1 12; clear hq1 hq2; first | (go_simp; done) | (go_simp; with_reducible rfl)
    simp only [Act.put, List.setIfInBounds_toArray, List.set_cons_zero, List.set_cons_succ]
    refine wpAnyH_take (i := 6) (oi := ⟨some 14, _, _, _, _, _⟩) (v := ?_) rfl (by kernel_rfl) (by kernel_rfl) (by kernel_rfl) (fun _ _ _ h => h) (Or.inl ⟨by kernel_rfl, ?_⟩) hH ?_
    rotate_left 1
    · intro wq hq; obtain ⟨hq1, hq2⟩ := hq; have c11 : wq.cell? ⟨b, 11, none⟩ = some (.int .u32 u.on) := blk_cell hq1 11; have c12 : wq.cell? ⟨b, 12, none⟩ = some (.bool u.lost) := blk_cell hq1 12; clear hq1 hq2; first | (go_simp; done) | (go_simp; with_reducible rfl)
    simp only [Act.put, List.setIfInBounds_toArray, List.set_cons_zero, List.set_cons_succ]
    refine wpAnyH_take (i := 7) (oi := ⟨some 15, _, _, _, _, _⟩) (v := ?_) rfl (by kernel_rfl) (by kernel_rfl) (by kernel_rfl) (fun _ _ _ h => h) (Or.inl ⟨by kernel_rfl, ?_⟩) hH ?_
    rotate_left 1
    · intro wq hq; obtain ⟨hq1, hq2⟩ := hq; have c11 : wq.cell? ⟨b, 11, none⟩ = some (.int .u32 u.on) := blk_cell hq1 11; have c12 : wq.cell? ⟨b, 12, none⟩ = some (.bool u.lost) := blk_cell hq1 12; clear hq1 hq2; first | (go_simp; done) | (go_simp; with_reducible rfl)
    simp only [Act.put, List.setIfInBounds_toArray, List.set_cons_zero, List.set_cons_succ]
    refine wpAnyH_take (i := 8) (oi := ⟨some 16, _, _, _, _, _⟩) (v := ?_) rfl (by kernel_rfl) (by kernel_rfl) (by kernel_rfl) (fun _ _ _ h => h) (Or.inl ⟨by kernel_rfl, ?_⟩) hH ?_
    rotate_left 1
    · intro wq hq; obtain ⟨hq1, hq2⟩ := hq; have c11 : wq.cell? ⟨b, 11, none⟩ = some (.int .u32 u.on) := blk_cell hq1 11; have c12 : wq.cell? ⟨b, 12, none⟩ = some (.bool u.lost) := blk_cell hq1 12; clear hq1 hq2; first | (go_simp; done) | (go_simp; with_reducible rfl)
    simp only [Act.put, List.setIfInBounds_toArray, List.set_cons_zero, List.set_cons_succ]
    refine wpAnyH_take (i := 9) (oi := ⟨some 17, _, _, _, _, _⟩) (v := ?_) rfl (by kernel_rfl) (by kernel_rfl) (by kernel_rfl) (fun _ _ _ h => h) (Or.inl ⟨by kernel_rfl, ?_⟩) hH ?_
    rotate_left 1
    · intro wq hq; obtain ⟨hq1, hq2⟩ := hq; have c11 : wq.cell? ⟨b, 11, none⟩ = some (.int .u32 u.on) := blk_cell hq1 11; have c12 : wq.cell? ⟨b, 12, none⟩ = some (.bool u.lost) := blk_cell hq1 12; clear hq1 hq2; first | (go_simp; done) | (go_simp; with_reducible rfl)
    simp only [Act.put, List.setIfInBounds_toArray, List.set_cons_zero, List.set_cons_succ]
    refine wpAnyH_ready (rs := [1, 11]) (by kernel_rfl) (by simp) (AllReadyH.cons (o := ⟨some 9, _, _, _, _, _⟩) rfl (fun K hK => ?_) (AllReadyH.cons (o := ⟨some 3, _, _, _, _, _⟩) rfl (fun K hK => ?_) AllReadyH.nil))
    · go_simp
      refine (HSENT.out _ HU0.out).mono ?_
      rintro e w2 ⟨v, rfl, hv, hbw⟩
      obtain ⟨ta, tc, rfl⟩ := own_form hv
      have HV := Lib.hid hv; have HBW := Lib.hid hbw
      have HU2 := Lib.hid (HS0.out.below hbw)
      clear hv hbw
      go_wp2_with fail
      refine hK.out _ _ HU2.out (fun hH => ?_)
      clear hK K
      try simp only [Act.put, List.setIfInBounds_toArray, List.set_cons_zero, List.set_cons_succ]
      refine wpAnyH_take (i := 10) (oi := ⟨some 18, _, _, _, _, _⟩) (v := .agg (Dev.cells ⟨false, 0, 0, fun _ => 0, 0, 0, fun _ => 0, fun _ => 0, 0, none, 0, 0, ta, u.sent.length, tc, u.on, u.lost⟩)) rfl (by kernel_rfl) (by kernel_rfl) (by kernel_rfl) (fun _ _ _ h => h) (Or.inl ⟨by kernel_rfl, ?_⟩) hH ?_
      · intro wq hq; kernel_rfl
      try simp only [Act.put, List.setIfInBounds_toArray, List.set_cons_zero, List.set_cons_succ]
      refine wpAnyH_ready (rs := [11]) (by kernel_rfl) (by simp) (AllReadyH.cons (o := ⟨some 3, _, _, _, _, _⟩) rfl (fun K hK => ?_) AllReadyH.nil)
      go_simp
      refine hK.out _ _ (HU2.out.alloc _) (fun hH => ?_)
      clear hK K
      try simp only [Act.put, List.setIfInBounds_toArray, List.set_cons_zero, List.set_cons_succ]
      refine wpAnyH_ready (rs := [12]) (by kernel_rfl) (by simp) (AllReadyH.cons (o := ⟨none, _, _, _, _, _⟩) rfl (fun K hK => ?_) AllReadyH.nil)
      go_simp
      refine hK.out _ _ (HU2.out.alloc _) (fun hH => ?_)
      clear hK K
      try simp only [Act.put, List.setIfInBounds_toArray, List.set_cons_zero, List.set_cons_succ]
      refine wpAnyH_done (by kernel_rfl) ?_ _
      go_wp2_with fail
      go_meet
      exact stateB_1 (HBD.out.trans (HBW.out.mono HBD.out.size)) HBD.out.size HV.out HU2.out
    · go_simp
      refine hK.out _ _ (HS0.out.alloc _) (fun hH => ?_)
      clear hK K
      try simp only [Act.put, List.setIfInBounds_toArray, List.set_cons_zero, List.set_cons_succ]
      refine wpAnyH_ready (rs := [1]) (by kernel_rfl) (by simp) (AllReadyH.cons (o := ⟨some 9, _, _, _, _, _⟩) rfl (fun K hK => ?_) AllReadyH.nil)
      go_simp
      refine (HSENT.out _ ((HU0.out.alloc' _))).mono ?_
      rintro e w2 ⟨v, rfl, hv, hbw⟩
      obtain ⟨ta, tc, rfl⟩ := own_form hv
      have HV := Lib.hid hv; have HBW := Lib.hid hbw
      have HU2 := Lib.hid ((HS0.out.alloc (.cells dev0.cells 57)).below hbw)
      have HD3 : Hid (w2.heap[wd.heap.size]? = some (.cells dev0.cells 57 (0, 0))) := (hbw.block _ (by simp)).trans (blk_alloc _ _)
      have HD2 : Hid (w2.heap[w0.heap.size]? = some (.cells dev0.cells 57 (0, 0))) := by show _ = _; rw [HSZ.out]; exact HD3.out
      have HLT2 : Hid (b < w0.heap.size ∧ w.heap.size < w0.heap.size) := by show _ ∧ _; rw [HSZ.out]; exact StateS.lt HS0.out
      have r1 : rowIs w2 wd.heap.size 22 = true := rowIs_of HD3.out
      clear hv hbw
      go_wp2_with fail
      refine hK.out _ _ HU2.out (fun hH => ?_)
      clear hK K
      try simp only [Act.put, List.setIfInBounds_toArray, List.set_cons_zero, List.set_cons_succ]
      refine wpAnyH_take (i := 10) (oi := ⟨some 18, _, _, _, _, _⟩) (v := .agg (Dev.cells ⟨false, 0, 0, fun _ => 0, 0, 0, fun _ => 0, fun _ => 0, 0, none, 0, 0, ta, u.sent.length, tc, u.on, u.lost⟩)) rfl (by kernel_rfl) (by kernel_rfl) (by kernel_rfl) (fun _ _ _ h => h) (Or.inl ⟨by kernel_rfl, ?_⟩) hH ?_
      · intro wq hq; kernel_rfl
      try simp only [Act.put, List.setIfInBounds_toArray, List.set_cons_zero, List.set_cons_succ]
      refine wpAnyH_ready (rs := [12]) (by kernel_rfl) (by simp) (AllReadyH.cons (o := ⟨none, _, _, _, _, _⟩) rfl (fun K hK => ?_) AllReadyH.nil)
      go_simp
      refine hK.out _ _ (HU2.out.row (StateS.lt HS0.out) _) (fun hH => ?_)
      clear hK K
      try simp only [Act.put, List.setIfInBounds_toArray, List.set_cons_zero, List.set_cons_succ]
      refine wpAnyH_done (by kernel_rfl) ?_ _
      go_wp2_with fail
      go_meet
      exact stateB_2 HBD.out HBW.out HV.out HU2.out HD3.out (StateS.lt HS0.out)
  case rest =>
    obtain ⟨dB, ta, tc, rfl, hd, htx, hr, hne, hge, hb⟩ := hcut
    generalize wc = wv at *
    have HD := Lib.hid hd; have HTX := Lib.hid htx; have HR := Lib.hid hr; have HNE := Lib.hid hne; have HGE := Lib.hid hge; have HB := Lib.hid hb
    have HU : Hid (wv.heap[b]? = some (.cells (u.cells sn) 107 (0, 0))) := (hb.block b HL.out).trans HUW.out
    have c9 : wv.cell? ⟨b, 9, none⟩ = some (.int .i64 u.n) := blk_cell HU.out 9
    obtain ⟨i0, hi0, hz0⟩ := Option.map_eq_some_iff.1 A_info5
    simp only [Prod.mk.injEq] at hz0
    have HI := Lib.hid hi0; have HZ := Lib.hid hz0
    clear hd htx hr hne hge hb HB0 HU00 HR00 hi0 hz0
    go_wp2_with fail
    go_loopw [23] (fun i wr => ∃ k : Nat, (k : Int) ≤ u.n ∧ i = .int .i64 k ∧ StateL w b u sn dB ta tc k wr) (fun i _ => u.n - (intOf i).toNat)
    case atStart => exact ⟨0, by omega, rfl, none, 0, HU.out, HD.out, World.ownsRow_nil _ _ _ _, HTX.out, HR.out, (fun g e => nomatch e), HB.out⟩
    case round =>
      obtain ⟨k, hk, rfl, ra, rc, hu, hd, hrx, htx, hr, hap, hb⟩ := hrel
      clear HU HD HTX HR HB
      have HN := Lib.hid (StateL.next (u := u) (sn := sn) HL.out HNE.out HGE.out hu hd hrx htx hr hap hb)
      have HF := Lib.hid (stateTo HNE.out HGE.out hd hrx htx hr hap hb)
      have HD := Lib.hid hd; have HRX := Lib.hid hrx; have HU := Lib.hid hu; have HR9 := Lib.hid hr
      have c8 : wr.cell? ⟨b, 8, none⟩ = some (.int .i64 u.head) := blk_cell hu 8
      have c18 : wr.cell? ⟨dB, 18, none⟩ = some (.slice ra k rc) := blk_cell hd 18
      by_cases hlt : (k : Int) < u.n
      · have h1 := HOK.out.head; have h2 := HOK.out.n
        obtain ⟨j, hj, hj8⟩ : ∃ j, j = (u.head + k) % 8 ∧ j < 8 := ⟨_, rfl, by omega⟩
        have e1 : ((u.head : Int) + k) % 8 = (j : Int) := by omega
        have e1' : ((u.head : Int) + k).tmod 8 = (j : Int) := by rw [Int.tmod_eq_emod_of_nonneg (by omega)]; exact e1
        have e2 : IntKind.i64.wrap ((u.head : Int) + k) = (u.head : Int) + k := by rw [IntKind.wrap_i64]; omega
        have e4 : IntKind.i64.wrap (j : Int) = j := by rw [IntKind.wrap_i64]; omega
        have hjl : (j : Int) < 8 := by omega
        have cj : wr.cell? ⟨b, j, none⟩ = some (.int .u8 (u.ring j)) := (blk_cell hu j).trans (uring_get u sn j hj8)
        have HJ := Lib.hid hj
        have hk7 : k < 8 := by omega
        have HK1 : Hid (k + 1 ≤ maxLen ∧ (k + 1) * 1 ≤ 140737488355328) := by
          refine ⟨?_, by omega⟩
          show _ ≤ _
          unfold maxLen; omega
        have hkw : IntKind.i64.wrap ((k : Int) + 1) = ((k + 1 : Nat) : Int) := by rw [IntKind.wrap_i64]; omega
        have HKN : Hid (((k + 1 : Nat) : Int) ≤ u.n) := by show _ ≤ _; omega
        have HKV : Hid (u.n - (intOf (.int .i64 ((k + 1 : Nat) : Int))).toNat < u.n - (intOf (.int .i64 (k : Int))).toNat) := by show _ < _; simp only [intOf]; omega
        clear hj hj8 h1 h2 hk7 hu hd hrx htx hr hap hb hk
        have HSA : Hid (∀ o, (fun wq : World => wq.cell? ⟨b, 8, none⟩ = some (.int .i64 u.head) ∧ wq.cell? ⟨b, j, none⟩ = some (.int .u8 (u.ring j))) (wr.drew.alloc o)) := fun o => ⟨(World.cell?_of_block (blk_alloc_old _ _ _ (blk_lt HU.out))).trans c8, (World.cell?_of_block (blk_alloc_old _ _ _ (blk_lt HU.out))).trans cj⟩
        have HSB := Lib.hid (StateL.kept HL.out HU.out HRX.out c8 cj)
        have HSE : Hid (∀ w1, (fun wq : World => wq.cell? ⟨b, 8, none⟩ = some (.int .i64 u.head) ∧ wq.cell? ⟨b, j, none⟩ = some (.int .u8 (u.ring j))) w1 → ∀ v', (fun wq : World => wq.cell? ⟨b, 8, none⟩ = some (.int .i64 u.head) ∧ wq.cell? ⟨b, j, none⟩ = some (.int .u8 (u.ring j))) (w1.setCell ⟨dB, 18, none⟩ v')) := fun w1 h v' => ⟨by rw [cell_set, if_neg (by have := HL.out; have := HGE.out; omega)]; exact h.1, by rw [cell_set, if_neg (by have := HL.out; have := HGE.out; omega)]; exact h.2⟩
        go_upto_region 7 with fail
        refine wp_region_held_drew (S := (fun wq : World => wq.cell? ⟨b, 8, none⟩ = some (.int .i64 u.head) ∧ wq.cell? ⟨b, j, none⟩ = some (.int .u8 (u.ring j)))) (by kernel_rfl) ⟨c8, cj⟩ (fun hH => ?_)
        refine wpAnyH_take (i := 0) (oi := ⟨some 26, _, _, _, _, _⟩) (v := ?_) rfl (by kernel_rfl) (by kernel_rfl) (by kernel_rfl) (fun _ _ _ h => h) (Or.inl ⟨by kernel_rfl, ?_⟩) hH ?_
        rotate_left 1
        · intro wq hq; obtain ⟨c8, cj⟩ := hq; first | (go_simp; done) | (go_simp; with_reducible rfl)
        simp only [Act.put, List.setIfInBounds_toArray, List.set_cons_zero, List.set_cons_succ]
        refine wpAnyH_take (i := 2) (oi := ⟨some 28, _, _, _, _, _⟩) (v := ?_) rfl (by kernel_rfl) (by kernel_rfl) (by kernel_rfl) (fun _ _ _ h => h) (Or.inl ⟨by kernel_rfl, ?_⟩) hH ?_
        rotate_left 1
        · intro wq hq; obtain ⟨c8, cj⟩ := hq; first | (go_simp; done) | (go_simp; with_reducible rfl)
        simp only [Act.put, List.setIfInBounds_toArray, List.set_cons_zero, List.set_cons_succ]
        refine wpAnyH_take (i := 3) (oi := ⟨some 29, _, _, _, _, _⟩) (v := ?_) rfl (by kernel_rfl) (by kernel_rfl) (by kernel_rfl) (fun _ _ _ h => h) (Or.inl ⟨by kernel_rfl, ?_⟩) hH ?_
        rotate_left 1
        · intro wq hq; obtain ⟨c8, cj⟩ := hq; first | (go_simp; done) | (go_simp; with_reducible rfl)
        simp only [Act.put, List.setIfInBounds_toArray, List.set_cons_zero, List.set_cons_succ]
        refine wpAnyH_take (i := 4) (oi := ⟨some 30, _, _, _, _, _⟩) (v := ?_) rfl (by kernel_rfl) (by kernel_rfl) (by kernel_rfl) (fun _ _ _ h => h) (Or.inl ⟨by kernel_rfl, ?_⟩) hH ?_
        rotate_left 1
        · intro wq hq; obtain ⟨c8, cj⟩ := hq; first | (go_simp; done) | (go_simp; with_reducible rfl)
        simp only [Act.put, List.setIfInBounds_toArray, List.set_cons_zero, List.set_cons_succ]
        refine wpAnyH_take (i := 5) (oi := ⟨some 31, _, _, _, _, _⟩) (v := ?_) rfl (by kernel_rfl) (by kernel_rfl) (by kernel_rfl) (fun _ _ _ h => h) (Or.inl ⟨by kernel_rfl, ?_⟩) hH ?_
        rotate_left 1
        · intro wq hq; obtain ⟨c8, cj⟩ := hq; first | (go_simp; done) | (go_simp; with_reducible rfl)
        simp only [Act.put, List.setIfInBounds_toArray, List.set_cons_zero, List.set_cons_succ]
        refine wpAnyH_take (i := 6) (oi := ⟨some 32, _, _, _, _, _⟩) (v := ?_) rfl (by kernel_rfl) (by kernel_rfl) (by kernel_rfl) (fun _ _ _ h => h) (Or.inl ⟨by kernel_rfl, ?_⟩) hH ?_
        rotate_left 1
        · intro wq hq; obtain ⟨c8, cj⟩ := hq; first | (go_simp; done) | (go_simp; with_reducible rfl)
        simp only [Act.put, List.setIfInBounds_toArray, List.set_cons_zero, List.set_cons_succ]
        refine wpAnyH_take (i := 7) (oi := ⟨some 33, _, _, _, _, _⟩) (v := ?_) rfl (by kernel_rfl) (by kernel_rfl) (by kernel_rfl) (fun _ _ _ h => h) (Or.inl ⟨by kernel_rfl, ?_⟩) hH ?_
        rotate_left 1
        · intro wq hq; obtain ⟨c8, cj⟩ := hq; first | (go_simp; done) | (go_simp; with_reducible rfl)
        simp only [Act.put, List.setIfInBounds_toArray, List.set_cons_zero, List.set_cons_succ]
        refine wpAnyH_take (i := 8) (oi := ⟨some 34, _, _, _, _, _⟩) (v := ?_) rfl (by kernel_rfl) (by kernel_rfl) (by kernel_rfl) (fun _ _ _ h => h) (Or.inl ⟨by kernel_rfl, ?_⟩) hH ?_
        rotate_left 1
        · intro wq hq; obtain ⟨c8, cj⟩ := hq; first | (go_simp; done) | (go_simp; with_reducible rfl)
        simp only [Act.put, List.setIfInBounds_toArray, List.set_cons_zero, List.set_cons_succ]
        refine wpAnyH_take (i := 9) (oi := ⟨some 35, _, _, _, _, _⟩) (v := ?_) rfl (by kernel_rfl) (by kernel_rfl) (by kernel_rfl) (fun _ _ _ h => h) (Or.inl ⟨by kernel_rfl, ?_⟩) hH ?_
        rotate_left 1
        · intro wq hq; obtain ⟨c8, cj⟩ := hq; first | (go_simp; done) | (go_simp; with_reducible rfl)
        simp only [Act.put, List.setIfInBounds_toArray, List.set_cons_zero, List.set_cons_succ]
        refine wpAnyH_take (i := 10) (oi := ⟨some 36, _, _, _, _, _⟩) (v := ?_) rfl (by kernel_rfl) (by kernel_rfl) (by kernel_rfl) (fun _ _ _ h => h) (Or.inl ⟨by kernel_rfl, ?_⟩) hH ?_
        rotate_left 1
        · intro wq hq; obtain ⟨c8, cj⟩ := hq; first | (go_simp; done) | (go_simp; with_reducible rfl)
        simp only [Act.put, List.setIfInBounds_toArray, List.set_cons_zero, List.set_cons_succ]
        refine wpAnyH_take (i := 11) (oi := ⟨some 37, _, _, _, _, _⟩) (v := ?_) rfl (by kernel_rfl) (by kernel_rfl) (by kernel_rfl) (fun _ _ _ h => h) (Or.inl ⟨by kernel_rfl, ?_⟩) hH ?_
        rotate_left 1
        · intro wq hq; obtain ⟨c8, cj⟩ := hq; first | (go_simp; done) | (go_simp; with_reducible rfl)
        simp only [Act.put, List.setIfInBounds_toArray, List.set_cons_zero, List.set_cons_succ]
        refine wpAnyH_take (i := 12) (oi := ⟨some 38, _, _, _, _, _⟩) (v := ?_) rfl (by kernel_rfl) (by kernel_rfl) (by kernel_rfl) (fun _ _ _ h => h) (Or.inl ⟨by kernel_rfl, ?_⟩) hH ?_
        rotate_left 1
        · intro wq hq; obtain ⟨c8, cj⟩ := hq; first | (go_simp; done) | (go_simp; with_reducible rfl)
        simp only [Act.put, List.setIfInBounds_toArray, List.set_cons_zero, List.set_cons_succ]
        refine wpAnyH_take (i := 13) (oi := ⟨some 39, _, _, _, _, _⟩) (v := ?_) rfl (by kernel_rfl) (by kernel_rfl) (by kernel_rfl) (fun _ _ _ h => h) (Or.inl ⟨by kernel_rfl, ?_⟩) hH ?_
        rotate_left 1
        · intro wq hq; obtain ⟨c8, cj⟩ := hq; first | (go_simp; done) | (go_simp; with_reducible rfl)
        simp only [Act.put, List.setIfInBounds_toArray, List.set_cons_zero, List.set_cons_succ]
        refine wpAnyH_ready (rs := [1, 14]) (by kernel_rfl) (by simp) (AllReadyH.cons (o := ⟨some 27, _, _, _, _, _⟩) rfl (fun K hK => ?_) (AllReadyH.cons (o := ⟨some 40, _, _, _, _, _⟩) rfl (fun K hK => ?_) AllReadyH.nil))
        · go_simp
          refine hK.out _ _ hH (fun hH => ?_)
          clear hK K
          try simp only [Act.put, List.setIfInBounds_toArray, List.set_cons_zero, List.set_cons_succ]
          refine wpAnyH_ready (rs := [14]) (by kernel_rfl) (by simp) (AllReadyH.cons (o := ⟨some 40, _, _, _, _, _⟩) rfl (fun K hK => ?_) AllReadyH.nil)
          go_simp
          refine hK.out _ _ (HSA.out _) (fun hH => ?_)
          clear hK K
          try simp only [Act.put, List.setIfInBounds_toArray, List.set_cons_zero, List.set_cons_succ]
          refine wpAnyH_ready (rs := [15]) (by kernel_rfl) (by simp) (AllReadyH.cons (o := ⟨some 41, _, _, _, _, _⟩) rfl (fun K hK => ?_) AllReadyH.nil)
          refine step_app_at rfl (.tmp 27) (.tmp 40) 37 rfl w.heap.size 5 (.int .u8 0) 1 Try.underlying37 A_info5 rfl (.slice ra k rc) k ((u.rx k).map (Value.int .u8)) ?e1 (HRX.out.alloc _) wr.heap.size 1 1 [.int .u8 (u.ring j)] ?e2 ?e4 (cell_one_new _ _ _) ?e3 HK1.out.2 HK1.out.1 ?e5 ?_
          case e1 => rfl
          case e2 => rfl
          case e4 => rfl
          case e3 => simp [Value.oneCell']
          case e5 => have := blk_lt HR9.out; simp; omega
          intro v' w1 hown' hgrow hob
          have hgrow : (wr.alloc (.cells #[.int .u8 (u.ring j)] 5)).grownBy w1 (Value.slice ra k rc).ownBlock := ⟨hgrow.os, hgrow.tape, hgrow.output, hgrow.size, hgrow.block⟩
          have hk := field_kept HD.out (by decide) HRX.out hgrow
          have hkb := HSB.out _ _ hown' hgrow
          have HFIN := Lib.hid (HN.out _ HJ.out v' w1 hown' hgrow hob)
          obtain ⟨g', cap', rfl⟩ := ownsRow_succ hown'
          have c18' : w1.cell? ⟨dB, 18, none⟩ = some (.slice ra k rc) := blk_cell hk 18
          have f18 : w1.frozen? ⟨dB, 18, none⟩ = false := blk_frozen hk 18
          clear hown' hgrow hob hk
          refine hK.out _ _ hkb (fun hH => ?_)
          clear hK K
          try simp only [Act.put, List.setIfInBounds_toArray, List.set_cons_zero, List.set_cons_succ]
          refine wpAnyH_take (i := 16) (oi := ⟨some 42, _, _, _, _, _⟩) (v := ?_) rfl (by kernel_rfl) (by kernel_rfl) (by kernel_rfl) (fun _ _ _ h => h) (Or.inl ⟨by kernel_rfl, ?_⟩) hH ?_
          rotate_left 1
          · intro wq hq; obtain ⟨c8, cj⟩ := hq; first | (go_simp; done) | (go_simp; with_reducible rfl)
          simp only [Act.put, List.setIfInBounds_toArray, List.set_cons_zero, List.set_cons_succ]
          refine wpAnyH_ready (rs := [17]) (by kernel_rfl) (by simp) (AllReadyH.cons (o := ⟨none, _, _, _, _, _⟩) rfl (fun K hK => ?_) AllReadyH.nil)
          go_simp
          refine hK.out _ _ (HSE.out _ hH _) (fun _ => ?_)
          clear hK K
          try simp only [Act.put, List.setIfInBounds_toArray, List.set_cons_zero, List.set_cons_succ]
          refine wpAnyH_done (by kernel_rfl) ?_ _
          go_wp2_with fail
          exact ⟨⟨k + 1, HKN.out, rfl, HFIN.out⟩, HKV.out⟩
        · have hdne : ¬ dB = wr.heap.size := by have := blk_lt HD.out; omega
          have c18b : (wr.alloc (.cells #[.int .u8 (u.ring j)] 5)).cell? ⟨dB, 18, none⟩ = some (.slice ra k rc) := (World.cell?_of_block (blk_alloc_old _ _ _ (blk_lt HD.out))).trans c18
          go_simp
          refine hK.out _ _ (HSA.out _) (fun hH => ?_)
          clear hK K
          try simp only [Act.put, List.setIfInBounds_toArray, List.set_cons_zero, List.set_cons_succ]
          refine wpAnyH_ready (rs := [1]) (by kernel_rfl) (by simp) (AllReadyH.cons (o := ⟨some 27, _, _, _, _, _⟩) rfl (fun K hK => ?_) AllReadyH.nil)
          go_simp
          refine hK.out _ _ hH (fun hH => ?_)
          clear hK K
          try simp only [Act.put, List.setIfInBounds_toArray, List.set_cons_zero, List.set_cons_succ]
          refine wpAnyH_ready (rs := [15]) (by kernel_rfl) (by simp) (AllReadyH.cons (o := ⟨some 41, _, _, _, _, _⟩) rfl (fun K hK => ?_) AllReadyH.nil)
          refine step_app_at rfl (.tmp 27) (.tmp 40) 37 rfl w.heap.size 5 (.int .u8 0) 1 Try.underlying37 A_info5 rfl (.slice ra k rc) k ((u.rx k).map (Value.int .u8)) ?e1 (HRX.out.alloc _) wr.heap.size 1 1 [.int .u8 (u.ring j)] ?e2 ?e4 (cell_one_new _ _ _) ?e3 HK1.out.2 HK1.out.1 ?e5 ?_
          case e1 => rfl
          case e2 => rfl
          case e4 => rfl
          case e3 => simp [Value.oneCell']
          case e5 => have := blk_lt HR9.out; simp; omega
          intro v' w1 hown' hgrow hob
          have hgrow : (wr.alloc (.cells #[.int .u8 (u.ring j)] 5)).grownBy w1 (Value.slice ra k rc).ownBlock := ⟨hgrow.os, hgrow.tape, hgrow.output, hgrow.size, hgrow.block⟩
          have hk := field_kept HD.out (by decide) HRX.out hgrow
          have hkb := HSB.out _ _ hown' hgrow
          have HFIN := Lib.hid (HN.out _ HJ.out v' w1 hown' hgrow hob)
          obtain ⟨g', cap', rfl⟩ := ownsRow_succ hown'
          have c18' : w1.cell? ⟨dB, 18, none⟩ = some (.slice ra k rc) := blk_cell hk 18
          have f18 : w1.frozen? ⟨dB, 18, none⟩ = false := blk_frozen hk 18
          clear hown' hgrow hob hk
          refine hK.out _ _ hkb (fun hH => ?_)
          clear hK K
          try simp only [Act.put, List.setIfInBounds_toArray, List.set_cons_zero, List.set_cons_succ]
          refine wpAnyH_take (i := 16) (oi := ⟨some 42, _, _, _, _, _⟩) (v := ?_) rfl (by kernel_rfl) (by kernel_rfl) (by kernel_rfl) (fun _ _ _ h => h) (Or.inl ⟨by kernel_rfl, ?_⟩) hH ?_
          rotate_left 1
          · intro wq hq; obtain ⟨c8, cj⟩ := hq; first | (go_simp; done) | (go_simp; with_reducible rfl)
          simp only [Act.put, List.setIfInBounds_toArray, List.set_cons_zero, List.set_cons_succ]
          refine wpAnyH_ready (rs := [17]) (by kernel_rfl) (by simp) (AllReadyH.cons (o := ⟨none, _, _, _, _, _⟩) rfl (fun K hK => ?_) AllReadyH.nil)
          go_simp
          refine hK.out _ _ (HSE.out _ hH _) (fun _ => ?_)
          clear hK K
          try simp only [Act.put, List.setIfInBounds_toArray, List.set_cons_zero, List.set_cons_succ]
          refine wpAnyH_done (by kernel_rfl) ?_ _
          go_wp2_with fail
          exact ⟨⟨k + 1, HKN.out, rfl, HFIN.out⟩, HKV.out⟩
      · have hkn : k = u.n := by omega
        have HE := Lib.hid (HF.out hkn)
        have hr0 : rowIs wr dB 22 = true := rowIs_of HD.out
        have hr1 : rowOf wr dB = (stateDev u ra k rc ta u.sent.length tc).cells := rowOf_of HD.out
        have hr9 : rowIs wr w.heap.size 22 = true := rowIs_of HR9.out
        have hne : ¬ dB = w.heap.size := HNE.out
        clear hu hd hrx htx hr hap hb HF HN hkn c8 c18
        go_wp2
        exact bodyPost_ret (res_c _ _ (wr.setRow w.heap.size (stateDev u ra k rc ta u.sent.length tc).cells) w.heap.size (stateDev u ra k rc ta u.sent.length tc).cells rfl (lv_dev _ _ _ (by rw [is_setRow_same _ _ _ _ _ hr9]; rfl) (row_setRow_same _ _ _ _ hr9)) rfl) rfl (HE.out _)
end Go.Proofs.Ytefcdbpmpnmkjaa
end
section
set_option linter.unusedVariables false
set_option linter.unusedSimpArgs false
namespace Go.Proofs.Ytefcdbpmpnmkjaa
open Go.RowKit
set_option maxRecDepth 100000
def clint0 : ClintS := ⟨false, 0, 18446744073709551615⟩
theorem clint0_ok : clint0.Ok := ⟨by decide, by decide⟩
theorem clint_new (w : World) : Calls Try.prog 22 #[] w fun e w' => e = .returned (.pointer (some ⟨w.heap.size, 0, none⟩)) ∧ w' = w.alloc (.cells clint0.cells 102) := by
  go_enter Try.func22, Try.ntmps22
  go_wp2
  go_ret
  exact ⟨rfl, rfl⟩
/-- block b has become the clint c; nothing else that was there has turned -/
def ClintSet (w : World) (b : Nat) (c : ClintS) (w' : World) : Prop := ClintAt w' b c ∧ Turned (· = b) w w'
def ClintS.tick (c : ClintS) : ClintS := { c with time := (c.time + 1) % 2 ^ 64 }
theorem ClintS.Ok.tick {c : ClintS} (h : c.Ok) : c.tick.Ok := ⟨Nat.mod_lt _ (by omega), h.cmp⟩
theorem clint_tick {w : World} {b : Nat} {c : ClintS} (h : ClintAt w b c) :
    Calls Try.prog 36 #[.pointer (some ⟨b, 0, none⟩)] w fun e w' => e = .returned (.tuple #[]) ∧ ClintSet w b c.tick w' := by
  have c1 : w.cell? ⟨b, 1, none⟩ = some (.int .u64 c.time) := blk_cell h 1
  have f1 : w.frozen? ⟨b, 1, none⟩ = false := blk_frozen h 1
  have HW : Hid (IntKind.u64.wrap ((c.time : Int) + 1) = ((c.tick.time : Nat) : Int)) := by
    show _ = _
    rw [IntKind.wrap_u64]
    show _ = (((c.time + 1) % 2 ^ 64 : Nat) : Int)
    omega
  have H := Lib.hid h
  clear h
  go_enter Try.func36, Try.ntmps36
  go_wp2
  rw [HW.out]
  go_end0
  exact ⟨rfl, blk_set H.out 1 _, (Turned.refl (· = b) w).set (.inl rfl) _ _⟩
def ClintS.lns (c : ClintS) : Nat := (if c.soft then 8 else 0) ||| (if c.cmp ≤ c.time then 128 else 0)
theorem clint_lines {w : World} {b : Nat} {c : ClintS} (h : ClintAt w b c) :
    Calls Try.prog 37 #[.pointer (some ⟨b, 0, none⟩)] w fun e w' => e = .returned (.int .u64 (c.lns : Nat)) ∧ ∃ k, w' = w.drewN k := by
  have c0 : w.cell? ⟨b, 0, none⟩ = some (.bool c.soft) := blk_cell h 0
  have c1 : w.cell? ⟨b, 1, none⟩ = some (.int .u64 c.time) := blk_cell h 1
  have c2 : w.cell? ⟨b, 2, none⟩ = some (.int .u64 c.cmp) := blk_cell h 2
  obtain ⟨soft, time, cmp⟩ := c
  simp only at c0 c1 c2
  clear h
  by_cases hle : cmp ≤ time
  · have h1 : decide (cmp ≤ time) = true := by simpa using hle
    have HF : Hid (ClintS.lns ⟨soft, time, cmp⟩ = (if soft then 8 else 0) ||| 128) := by show _ = _; unfold ClintS.lns; simp [hle]
    cases soft
    · go_enter Try.func37, Try.ntmps37
      go_wp2
      go_quiet (fail)
      go_wp2
      go_ret
      exact ⟨by rw [HF.out]; rfl, _, rfl⟩
    · go_enter Try.func37, Try.ntmps37
      go_wp2
      go_quiet (fail)
      go_wp2
      go_ret
      exact ⟨by rw [HF.out]; rfl, _, rfl⟩
  · have h1 : decide (cmp ≤ time) = false := by simpa using hle
    have HF : Hid (ClintS.lns ⟨soft, time, cmp⟩ = (if soft then 8 else 0)) := by show _ = _; unfold ClintS.lns; simp [hle]
    cases soft
    · go_enter Try.func37, Try.ntmps37
      go_wp2
      go_quiet (fail)
      go_wp2
      go_ret
      exact ⟨by rw [HF.out]; rfl, _, rfl⟩
    · go_enter Try.func37, Try.ntmps37
      go_wp2
      go_quiet (fail)
      go_wp2
      go_ret
      exact ⟨by rw [HF.out]; rfl, _, rfl⟩
theorem clint_time {w : World} {b : Nat} {c : ClintS} (h : ClintAt w b c) :
    Calls Try.prog 52 #[.pointer (some ⟨b, 0, none⟩)] w fun e w' => e = .returned (.int .u64 c.time) ∧ w = w' := by
  have c1 : w.cell? ⟨b, 1, none⟩ = some (.int .u64 c.time) := blk_cell h 1
  clear h
  go_enter Try.func52, Try.ntmps52
  go_wp2
  go_ret
  exact ⟨rfl, rfl⟩
theorem clint_state {w : World} {b : Nat} {c : ClintS} (h : ClintAt w b c) :
    Calls Try.prog 49 #[.pointer (some ⟨b, 0, none⟩)] w fun e w' => e = .returned (.tuple #[.bool c.soft, .int .u64 c.time, .int .u64 c.cmp]) ∧ ∃ k, w' = w.drewN k := by
  have c0 : w.cell? ⟨b, 0, none⟩ = some (.bool c.soft) := blk_cell h 0
  have c1 : w.cell? ⟨b, 1, none⟩ = some (.int .u64 c.time) := blk_cell h 1
  have c2 : w.cell? ⟨b, 2, none⟩ = some (.int .u64 c.cmp) := blk_cell h 2
  clear h
  go_enter Try.func49, Try.ntmps49
  go_wp2
  go_quiet (fail)
  go_wp2
  go_ret3
  exact ⟨rfl, _, rfl⟩
end Go.Proofs.Ytefcdbpmpnmkjaa
end
section
set_option linter.unusedVariables false
set_option linter.unusedSimpArgs false
namespace Go.Proofs.Ytefcdbpmpnmkjaa
open Go.RowKit
set_option maxRecDepth 100000
/-- from w to w', by turning S and blocks that are new -/
def TT (w w' : World) (S S' : Nat → Prop) : Prop := Turned S w w' ∧ ∀ g, S' g → S g ∨ w.heap.size ≤ g
theorem TT.refl (w : World) (S : Nat → Prop) : TT w w S S := ⟨Turned.refl _ _, fun _ => .inl⟩
theorem TT.step {w w1 w2 : World} {S S1 S2 : Nat → Prop} (h : TT w w1 S S1) (k : TT w1 w2 S1 S2) : TT w w2 S S2 :=
  ⟨h.1.trans k.1 h.2, fun g hg => (k.2 g hg).elim (h.2 g) fun e => .inr (Nat.le_trans h.1.size e)⟩
section
variable {w w' : World} {β : SocB} {σ : SocS} {lg sn : Value} {SR : Nat → Prop}
theorem TT.of_drew {S S' : Nat → Prop} (h : TT w.drew w' S S') : TT w w' S S' := ⟨⟨h.1.os, h.1.tape, h.1.output, h.1.size, h.1.block⟩, h.2⟩
theorem SocIs.uart_to (h : SocIs w β σ lg sn SR) {u : UartS} (hu : UartTo w β.u u sn w') (hok : u.Ok) : ∃ sn', SocIs w' β { σ with u := u } lg sn' SR ∧ TT w w' (SocOwn β lg sn SR) (SocOwn β lg sn' SR) := by
  obtain ⟨sn', h1, h2, h3⟩ := hu
  refine ⟨sn', h.uart h2 h1 hok, h2.mono fun g hg => ?_, fun g hg => ?_⟩
  · rcases hg with rfl | hg
    · exact .inr (.inr (.inr (.inl rfl)))
    · exact .inr (.inr (.inr (.inr (.inr (.inr hg)))))
  · rcases hg with hg | hg | hg | hg | hg | hg | hg
    · exact .inl (.inl hg)
    · exact .inl (.inr (.inl hg))
    · exact .inl (.inr (.inr (.inl hg)))
    · exact .inl (.inr (.inr (.inr (.inl hg))))
    · exact .inl (.inr (.inr (.inr (.inr (.inl hg)))))
    · exact .inl (.inr (.inr (.inr (.inr (.inr (.inl hg))))))
    · rcases h3 g hg with hg | hg
      · exact .inl (.inr (.inr (.inr (.inr (.inr (.inr hg))))))
      · exact .inr hg
theorem SocIs.clint_to (h : SocIs w β σ lg sn SR) {c : ClintS} (hc : ClintSet w β.c c w') (hok : c.Ok) : SocIs w' β { σ with c := c } lg sn SR ∧ TT w w' (SocOwn β lg sn SR) (SocOwn β lg sn SR) :=
  ⟨h.clint hc.2 hc.1 hok, hc.2.mono fun g hg => .inr (.inl hg), fun g hg => .inl hg⟩
theorem SocIs.plic_to (h : SocIs w β σ lg sn SR) {d : Dev} (hc : PlicSet w β.p d w') (hok : d.Ok) : SocIs w' β { σ with p := d } lg sn SR ∧ TT w w' (SocOwn β lg sn SR) (SocOwn β lg sn SR) :=
  ⟨h.plic (.of_grown hc.2) hc.1 hok, (Turned.of_grown hc.2).mono fun g hg => .inr (.inr (.inl hg)), fun g hg => .inl hg⟩
/-- one of its own cells, not the log -/
theorem SocIs.cell_to (h : SocIs w β σ lg sn SR) (o : Nat) (v : Value) {cy lv : Nat} (he : (socCells β σ lg).setIfInBounds o v = socCells β { σ with cycle := cy, levels := lv } lg) (h1 : cy < 2 ^ 64) (h2 : lv < 2 ^ 32) :
    SocIs (w.setCell ⟨β.s, o, none⟩ v) β { σ with cycle := cy, levels := lv } lg sn SR ∧ TT w (w.setCell ⟨β.s, o, none⟩ v) (SocOwn β lg sn SR) (SocOwn β lg sn SR) := by
  have ht : Turned (fun g => g = β.s) w (w.setCell ⟨β.s, o, none⟩ v) := (Turned.refl (fun g => g = β.s) w).set (.inl rfl) o v
  refine ⟨h.self (l := σ.log) (ht.mono fun g hg => .inl hg) ?_ (own_turned h.log ht fun g hg e => ?_) h1 h2, ht.mono fun g hg => .inl hg, fun g hg => .inl hg⟩
  · have := blk_set h.at_ o v
    rw [he] at this
    exact this
  · obtain ⟨C, hC⟩ := own_cells h.log hg
    exact type_ne hC h.at_ (by decide) e
theorem SocIs.draws (h : SocIs w β σ lg sn SR) (n : Nat) : SocIs (w.drewN n) β σ lg sn SR := h.below (below_drewN (Below.refl _ _) n)
end
theorem TT.to {w w1 : World} {β : SocB} {σ : SocS} {S : Nat → Prop} {lg sn : Value} {SR : Nat → Prop} (h : TT w w1 S (SocOwn β lg sn SR)) (hs : SocIs w1 β σ lg sn SR) : SocTo w w1 β σ S := ⟨_, ⟨lg, sn, SR, hs, rfl⟩, h.1, h.2⟩
/-- the lines that are levels from outside -/
def lvOf (l : Int) : Nat := (IntKind.u32.wrap (bits .and .i64 l 126)).toNat
def SocS.recv (σ : SocS) (rx : Int) : SocS := if 0 ≤ rx ∧ rx ≤ 255 then { σ with u := (σ.u.recv rx.toNat).2 } else σ
def SocS.lvl (σ : SocS) (l : Int) : SocS := { σ with levels := if σ.u.line then lvOf l ||| 128 else lvOf l }
def SocS.end_ (σ : SocS) : SocS := { σ with p := σ.p.tick σ.levels, c := σ.c.tick, cycle := (σ.cycle + 1) % 2 ^ 64 }
def SocS.tick (σ : SocS) (l rx : Int) : SocS := ((σ.recv rx).lvl l).end_
theorem lvOf_lt (l : Int) : lvOf l < 2 ^ 32 := by unfold lvOf; rw [IntKind.wrap_u32]; omega
theorem lvOf_i (l : Int) : IntKind.u32.wrap (bits .and .i64 l 126) = (lvOf l : Int) := by unfold lvOf; rw [IntKind.wrap_u32]; omega
theorem or128 (a : Nat) (h : a < 2 ^ 32) : bits .or .u32 (a : Int) 128 = ((a ||| 128 : Nat) : Int) ∧ a ||| 128 < 2 ^ 32 := by
  have h2 : a ||| 128 < 2 ^ 32 := Nat.or_lt_two_pow h (by decide)
  refine ⟨?_, h2⟩
  show IntKind.u32.wrap ((BitVec.ofInt 32 (a : Int) ||| BitVec.ofInt 32 128).toNat : Int) = _
  have e2 : (BitVec.ofInt 32 (a : Int)).toNat = a := by simp; omega
  have e1 : (BitVec.ofInt 32 128).toNat = 128 := by decide
  rw [BitVec.toNat_or, e2, e1, IntKind.wrap_u32]
  omega
theorem SocS.end_ok {σ : SocS} (h : σ.Ok) : (σ.cycle + 1) % 2 ^ 64 < 2 ^ 64 := Nat.mod_lt _ (Nat.two_pow_pos 64)
set_option maxHeartbeats 8000000 in
theorem soc_tick {w : World} {β : SocB} {σ : SocS} {S : Nat → Prop} (h : SocAt w β σ S) (l rx q2 q3 : Int) :
    Calls Try.prog 10 #[.pointer (some ⟨β.s, 0, none⟩), .agg #[.int .i64 l, .int .i64 rx, .int .i64 q2, .int .i64 q3]] w fun e w' => e = .returned (.tuple #[]) ∧ SocTo w w' β (σ.tick l rx) S := by
  obtain ⟨lg, sn, SR, h, rfl⟩ := h
  have HB : Hid (Below w.heap.size w (w.alloc (.cells #[.int .i64 l, .int .i64 rx, .int .i64 q2, .int .i64 q3] 31))) := (Below.refl _ w).alloc (Nat.le_refl _) _
  have H := Lib.hid (h.below HB.out)
  have HT : Hid (TT w (w.alloc (.cells #[.int .i64 l, .int .i64 rx, .int .i64 q2, .int .i64 q3] 31)) (SocOwn β lg sn SR) (SocOwn β lg sn SR)) := ⟨Turned.of_below HB.out _, fun _ => .inl⟩
  have HI : Hid ((w.alloc (.cells #[.int .i64 l, .int .i64 rx, .int .i64 q2, .int .i64 q3] 31)).heap[w.heap.size]? = some (.cells #[.int .i64 l, .int .i64 rx, .int .i64 q2, .int .i64 q3] 31 (0, 0))) := blk_alloc _ _
  have HL : Hid (∀ g, SocOwn β lg sn SR g → g < w.heap.size) := fun g hg => h.lt hg
  have elv := lvOf_i l
  have hlv := lvOf_lt l
  obtain ⟨eor, hor⟩ := or128 (lvOf l) hlv
  have HLV := Lib.hid hlv; have HOR := Lib.hid hor
  clear h HB hlv hor
  by_cases hrx : 0 ≤ rx ∧ rx ≤ 255
  · obtain ⟨x, rfl⟩ : ∃ x : Nat, rx = x := ⟨rx.toNat, by omega⟩
    have h0 : (0 : Int) ≤ x := hrx.1
    have h1 : (x : Int) ≤ 255 := hrx.2
    have HF : Hid (σ.tick l x = (({ σ with u := (σ.u.recv x).2 } : SocS).lvl l).end_) := by show _ = _; unfold SocS.tick SocS.recv; rw [if_pos hrx]; rfl
    have hd : decide ((0 : Int) ≤ x) = true := by simp
    have hd2 : decide ((x : Int) ≤ 255) = true := by simpa using h1
    have e8 : IntKind.u8.wrap (x : Int) = (x : Int) := by rw [IntKind.wrap_u8]; omega
    have HX : Hid (x < 256) := by show _ < _; omega
    clear hrx
    go_enter Try.func10, Try.ntmps10
    go_wp2_with fail
    generalize hw0 : w.alloc (.cells #[.int .i64 l, .int .i64 x, .int .i64 q2, .int .i64 q3] 31) = w0 at *
    clear hw0
    refine wp_region_held_drew (S := fun wq => wq.heap[β.s]? = some (.cells (socCells β σ lg) 75 (0, 0)) ∧ wq.heap[w.heap.size]? = some (.cells #[.int .i64 l, .int .i64 x, .int .i64 q2, .int .i64 q3] 31 (0, 0))) (by kernel_rfl) ⟨H.out.at_, HI.out⟩ (fun hH => ?_)
    refine wpAnyH_take (i := 0) (oi := ⟨some 14, _, _, _, _, _⟩) (v := ?_) rfl (by kernel_rfl) (by kernel_rfl) (by kernel_rfl) (fun _ _ _ h => h) (Or.inl ⟨by kernel_rfl, ?_⟩) hH ?_
    rotate_left 1
    · intro wq hq; obtain ⟨hq1, hq2⟩ := hq; have c2 : wq.cell? ⟨β.s, 2, none⟩ = some (.pointer (some ⟨β.u, 0, none⟩)) := blk_cell hq1 2; have i1 : wq.cell? ⟨w.heap.size, 1, none⟩ = some (.int .i64 x) := blk_cell hq2 1; clear hq1 hq2; first | (go_simp; done) | (go_simp; with_reducible rfl)
    simp only [Act.put, List.setIfInBounds_toArray, List.set_cons_zero, List.set_cons_succ]
    refine wpAnyH_take (i := 1) (oi := ⟨some 15, _, _, _, _, _⟩) (v := ?_) rfl (by kernel_rfl) (by kernel_rfl) (by kernel_rfl) (fun _ _ _ h => h) (Or.inl ⟨by kernel_rfl, ?_⟩) hH ?_
    rotate_left 1
    · intro wq hq; obtain ⟨hq1, hq2⟩ := hq; have c2 : wq.cell? ⟨β.s, 2, none⟩ = some (.pointer (some ⟨β.u, 0, none⟩)) := blk_cell hq1 2; have i1 : wq.cell? ⟨w.heap.size, 1, none⟩ = some (.int .i64 x) := blk_cell hq2 1; clear hq1 hq2; first | (go_simp; done) | (go_simp; with_reducible rfl)
    simp only [Act.put, List.setIfInBounds_toArray, List.set_cons_zero, List.set_cons_succ]
    refine wpAnyH_take (i := 2) (oi := ⟨some 16, _, _, _, _, _⟩) (v := ?_) rfl (by kernel_rfl) (by kernel_rfl) (by kernel_rfl) (fun _ _ _ h => h) (Or.inl ⟨by kernel_rfl, ?_⟩) hH ?_
    rotate_left 1
    · intro wq hq; obtain ⟨hq1, hq2⟩ := hq; have c2 : wq.cell? ⟨β.s, 2, none⟩ = some (.pointer (some ⟨β.u, 0, none⟩)) := blk_cell hq1 2; have i1 : wq.cell? ⟨w.heap.size, 1, none⟩ = some (.int .i64 x) := blk_cell hq2 1; clear hq1 hq2; first | (go_simp; done) | (go_simp; with_reducible rfl)
    simp only [Act.put, List.setIfInBounds_toArray, List.set_cons_zero, List.set_cons_succ]
    refine wpAnyH_take (i := 3) (oi := ⟨some 17, _, _, _, _, _⟩) (v := ?_) rfl (by kernel_rfl) (by kernel_rfl) (by kernel_rfl) (fun _ _ _ h => h) (Or.inl ⟨by kernel_rfl, ?_⟩) hH ?_
    rotate_left 1
    · intro wq hq; obtain ⟨hq1, hq2⟩ := hq; have c2 : wq.cell? ⟨β.s, 2, none⟩ = some (.pointer (some ⟨β.u, 0, none⟩)) := blk_cell hq1 2; have i1 : wq.cell? ⟨w.heap.size, 1, none⟩ = some (.int .i64 x) := blk_cell hq2 1; clear hq1 hq2; first | (go_simp; done) | (go_simp; with_reducible rfl)
    simp only [Act.put, List.setIfInBounds_toArray, List.set_cons_zero, List.set_cons_succ]
    refine wpAnyH_take (i := 4) (oi := ⟨some 18, _, _, _, _, _⟩) (v := ?_) rfl (by kernel_rfl) (by kernel_rfl) (by kernel_rfl) (fun _ _ _ h => h) (Or.inl ⟨by kernel_rfl, ?_⟩) hH ?_
    rotate_left 1
    · intro wq hq; obtain ⟨hq1, hq2⟩ := hq; have c2 : wq.cell? ⟨β.s, 2, none⟩ = some (.pointer (some ⟨β.u, 0, none⟩)) := blk_cell hq1 2; have i1 : wq.cell? ⟨w.heap.size, 1, none⟩ = some (.int .i64 x) := blk_cell hq2 1; clear hq1 hq2; first | (go_simp; done) | (go_simp; with_reducible rfl)
    simp only [Act.put, List.setIfInBounds_toArray, List.set_cons_zero, List.set_cons_succ]
    refine wpAnyH_take (i := 5) (oi := ⟨some 19, _, _, _, _, _⟩) (v := ?_) rfl (by kernel_rfl) (by kernel_rfl) (by kernel_rfl) (fun _ _ _ h => h) (Or.inl ⟨by kernel_rfl, ?_⟩) hH ?_
    rotate_left 1
    · intro wq hq; obtain ⟨hq1, hq2⟩ := hq; have c2 : wq.cell? ⟨β.s, 2, none⟩ = some (.pointer (some ⟨β.u, 0, none⟩)) := blk_cell hq1 2; have i1 : wq.cell? ⟨w.heap.size, 1, none⟩ = some (.int .i64 x) := blk_cell hq2 1; clear hq1 hq2; first | (go_simp; done) | (go_simp; with_reducible rfl)
    simp only [Act.put, List.setIfInBounds_toArray, List.set_cons_zero, List.set_cons_succ]
    refine wpAnyH_take (i := 6) (oi := ⟨some 20, _, _, _, _, _⟩) (v := ?_) rfl (by kernel_rfl) (by kernel_rfl) (by kernel_rfl) (fun _ _ _ h => h) (Or.inl ⟨by kernel_rfl, ?_⟩) hH ?_
    rotate_left 1
    · intro wq hq; obtain ⟨hq1, hq2⟩ := hq; have c2 : wq.cell? ⟨β.s, 2, none⟩ = some (.pointer (some ⟨β.u, 0, none⟩)) := blk_cell hq1 2; have i1 : wq.cell? ⟨w.heap.size, 1, none⟩ = some (.int .i64 x) := blk_cell hq2 1; clear hq1 hq2; first | (go_simp; done) | (go_simp; with_reducible rfl)
    simp only [Act.put, List.setIfInBounds_toArray, List.set_cons_zero, List.set_cons_succ]
    refine wpAnyH_take (i := 7) (oi := ⟨some 21, _, _, _, _, _⟩) (v := ?_) rfl (by kernel_rfl) (by kernel_rfl) (by kernel_rfl) (fun _ _ _ h => h) (Or.inl ⟨by kernel_rfl, ?_⟩) hH ?_
    rotate_left 1
    · intro wq hq; obtain ⟨hq1, hq2⟩ := hq; have c2 : wq.cell? ⟨β.s, 2, none⟩ = some (.pointer (some ⟨β.u, 0, none⟩)) := blk_cell hq1 2; have i1 : wq.cell? ⟨w.heap.size, 1, none⟩ = some (.int .i64 x) := blk_cell hq2 1; clear hq1 hq2; first | (go_simp; done) | (go_simp; with_reducible rfl)
    simp only [Act.put, List.setIfInBounds_toArray, List.set_cons_zero, List.set_cons_succ]
    refine wpAnyH_ready (rs := [8]) (by kernel_rfl) (by simp) (AllReadyH.cons (o := ⟨some 22, _, _, _, _, _⟩) rfl (fun K hK => ?_) AllReadyH.nil)
    go_simp
    refine (uart_recv (H.out.below (Below.refl _ _).drew).u H.out.ok.u x HX.out).mono ?_
    rintro e w1 ⟨rfl, hu⟩
    have hI : w1.heap[w.heap.size]? = some (.cells #[.int .i64 l, .int .i64 x, .int .i64 q2, .int .i64 q3] 31 (0, 0)) := by
      obtain ⟨sn', _, ht, _⟩ := hu
      refine ht.keep (fun e => ?_) HI.out
      rcases e with e | e
      · have := HL.out _ (.inr (.inr (.inr (.inl rfl)))); omega
      · have := HL.out _ (.inr (.inr (.inr (.inr (.inr (.inr e)))))); omega
    obtain ⟨sn1, h1, t1⟩ := (H.out.below (Below.refl _ _).drew).uart_to hu (H.out.ok.u.recv HX.out)
    have hat : w1.heap[β.s]? = some (.cells (socCells β σ lg) 75 (0, 0)) := by have := h1.at_; simp only [socCells] at this ⊢; exact this
    have HAT := Lib.hid hat
    have HI1 := Lib.hid hI
    generalize hσ1 : ({ σ with u := (σ.u.recv x).2 } : SocS) = σ1 at *
    have H1 := Lib.hid h1
    have HT1 : Hid (TT w w1 (SocOwn β lg sn SR) (SocOwn β lg sn1 SR)) := HT.out.step t1.of_drew
    clear hu hI h1 t1 hat hσ1 H HI HT
    go_wp2_with fail
    refine hK.out _ _ ⟨HAT.out, HI1.out⟩ (fun hH => ?_)
    clear hK K
    try simp only [Act.put, List.setIfInBounds_toArray, List.set_cons_zero, List.set_cons_succ]
    refine wpAnyH_done (by kernel_rfl) ?_ _
    clear hH
    have i0 : w1.cell? ⟨w.heap.size, 0, none⟩ = some (.int .i64 l) := blk_cell HI1.out 0
    have f5 : w1.frozen? ⟨β.s, 5, none⟩ = false := blk_frozen H1.out.at_ 5
    have c5 : w1.cell? ⟨β.s, 5, none⟩ = some (.int .u32 σ1.levels) := blk_cell H1.out.at_ 5
    have c2 : w1.cell? ⟨β.s, 2, none⟩ = some (.pointer (some ⟨β.u, 0, none⟩)) := blk_cell H1.out.at_ 2
    go_wp2_with fail
    obtain ⟨h2, t2⟩ := H1.out.cell_to 5 (.int .u32 (lvOf l : Nat)) (cy := σ1.cycle) (lv := lvOf l) rfl H1.out.ok.cycle HLV.out
    have HT2 := Lib.hid (HT1.out.step t2)
    generalize w1.setCell ⟨β.s, 5, none⟩ (.int .u32 (lvOf l : Nat)) = w2 at *
    obtain ⟨σ2, hσ2⟩ : ∃ σ2 : SocS, ({ σ1 with cycle := σ1.cycle, levels := lvOf l } : SocS) = σ2 := ⟨_, rfl⟩
    rw [hσ2] at h2
    have HQ : Hid (σ2.levels = lvOf l ∧ ∀ q, ({ σ2 with cycle := σ2.cycle, levels := q } : SocS) = { σ1 with levels := q }) := by subst hσ2; exact ⟨rfl, fun _ => rfl⟩
    have HQ1 : Hid (σ2 = { σ1 with levels := lvOf l }) := hσ2.symm
    have hqu : σ1.u.line = σ2.u.line := by subst hσ2; rfl
    have H2 := Lib.hid h2
    clear t2 h2 HT1 H1 i0 f5 c5 c2 HI1 hσ2
    refine (uart_line H2.out.u H2.out.ok.u).mono ?_
    rintro e w3 ⟨rfl, rfl⟩
    have HF2 : Hid (σ.tick l x = ({ σ1 with levels := if σ2.u.line then lvOf l ||| 128 else lvOf l } : SocS).end_) := by show _ = _; rw [HF.out, ← hqu]; rfl
    clear hqu HF
    cases hl : σ2.u.line
    · rw [hl] at HF2
      have HF3 : Hid (σ.tick l x = σ2.end_) := by show _ = _; rw [HF2.out, HQ1.out]; rfl
      generalize hσ3 : σ2 = σ3 at *
      generalize hw3 : w2 = w3 at *
      have H3 := H2; have HT3 := HT2
      clear hl HF2 HQ HQ1 hσ3 hw3 H2 HT2
      go_wp2_with fail
      refine wp_region_held_drew (S := fun wq => wq.heap[β.s]? = some (.cells (socCells β σ3 lg) 75 (0, 0))) (by kernel_rfl) H3.out.at_ (fun hH => ?_)
      refine wpAnyH_take (i := 0) (oi := ⟨some 43, _, _, _, _, _⟩) (v := ?_) rfl (by kernel_rfl) (by kernel_rfl) (by kernel_rfl) (fun _ _ _ h => h) (Or.inl ⟨by kernel_rfl, ?_⟩) hH ?_
      rotate_left 1
      · intro wq hq; have c1 : wq.cell? ⟨β.s, 1, none⟩ = some (.pointer (some ⟨β.p, 0, none⟩)) := blk_cell hq 1; have c5 : wq.cell? ⟨β.s, 5, none⟩ = some (.int .u32 σ3.levels) := blk_cell hq 5; clear hq; first | (go_simp; done) | (go_simp; with_reducible rfl)
      simp only [Act.put, List.setIfInBounds_toArray, List.set_cons_zero, List.set_cons_succ]
      refine wpAnyH_take (i := 1) (oi := ⟨some 44, _, _, _, _, _⟩) (v := ?_) rfl (by kernel_rfl) (by kernel_rfl) (by kernel_rfl) (fun _ _ _ h => h) (Or.inl ⟨by kernel_rfl, ?_⟩) hH ?_
      rotate_left 1
      · intro wq hq; have c1 : wq.cell? ⟨β.s, 1, none⟩ = some (.pointer (some ⟨β.p, 0, none⟩)) := blk_cell hq 1; have c5 : wq.cell? ⟨β.s, 5, none⟩ = some (.int .u32 σ3.levels) := blk_cell hq 5; clear hq; first | (go_simp; done) | (go_simp; with_reducible rfl)
      simp only [Act.put, List.setIfInBounds_toArray, List.set_cons_zero, List.set_cons_succ]
      refine wpAnyH_take (i := 2) (oi := ⟨some 45, _, _, _, _, _⟩) (v := ?_) rfl (by kernel_rfl) (by kernel_rfl) (by kernel_rfl) (fun _ _ _ h => h) (Or.inl ⟨by kernel_rfl, ?_⟩) hH ?_
      rotate_left 1
      · intro wq hq; have c1 : wq.cell? ⟨β.s, 1, none⟩ = some (.pointer (some ⟨β.p, 0, none⟩)) := blk_cell hq 1; have c5 : wq.cell? ⟨β.s, 5, none⟩ = some (.int .u32 σ3.levels) := blk_cell hq 5; clear hq; first | (go_simp; done) | (go_simp; with_reducible rfl)
      simp only [Act.put, List.setIfInBounds_toArray, List.set_cons_zero, List.set_cons_succ]
      refine wpAnyH_take (i := 3) (oi := ⟨some 46, _, _, _, _, _⟩) (v := ?_) rfl (by kernel_rfl) (by kernel_rfl) (by kernel_rfl) (fun _ _ _ h => h) (Or.inl ⟨by kernel_rfl, ?_⟩) hH ?_
      rotate_left 1
      · intro wq hq; have c1 : wq.cell? ⟨β.s, 1, none⟩ = some (.pointer (some ⟨β.p, 0, none⟩)) := blk_cell hq 1; have c5 : wq.cell? ⟨β.s, 5, none⟩ = some (.int .u32 σ3.levels) := blk_cell hq 5; clear hq; first | (go_simp; done) | (go_simp; with_reducible rfl)
      simp only [Act.put, List.setIfInBounds_toArray, List.set_cons_zero, List.set_cons_succ]
      refine wpAnyH_take (i := 4) (oi := ⟨some 47, _, _, _, _, _⟩) (v := ?_) rfl (by kernel_rfl) (by kernel_rfl) (by kernel_rfl) (fun _ _ _ h => h) (Or.inl ⟨by kernel_rfl, ?_⟩) hH ?_
      rotate_left 1
      · intro wq hq; have c1 : wq.cell? ⟨β.s, 1, none⟩ = some (.pointer (some ⟨β.p, 0, none⟩)) := blk_cell hq 1; have c5 : wq.cell? ⟨β.s, 5, none⟩ = some (.int .u32 σ3.levels) := blk_cell hq 5; clear hq; first | (go_simp; done) | (go_simp; with_reducible rfl)
      simp only [Act.put, List.setIfInBounds_toArray, List.set_cons_zero, List.set_cons_succ]
      refine wpAnyH_take (i := 5) (oi := ⟨some 48, _, _, _, _, _⟩) (v := ?_) rfl (by kernel_rfl) (by kernel_rfl) (by kernel_rfl) (fun _ _ _ h => h) (Or.inl ⟨by kernel_rfl, ?_⟩) hH ?_
      rotate_left 1
      · intro wq hq; have c1 : wq.cell? ⟨β.s, 1, none⟩ = some (.pointer (some ⟨β.p, 0, none⟩)) := blk_cell hq 1; have c5 : wq.cell? ⟨β.s, 5, none⟩ = some (.int .u32 σ3.levels) := blk_cell hq 5; clear hq; first | (go_simp; done) | (go_simp; with_reducible rfl)
      simp only [Act.put, List.setIfInBounds_toArray, List.set_cons_zero, List.set_cons_succ]
      refine wpAnyH_take (i := 6) (oi := ⟨some 49, _, _, _, _, _⟩) (v := ?_) rfl (by kernel_rfl) (by kernel_rfl) (by kernel_rfl) (fun _ _ _ h => h) (Or.inl ⟨by kernel_rfl, ?_⟩) hH ?_
      rotate_left 1
      · intro wq hq; have c1 : wq.cell? ⟨β.s, 1, none⟩ = some (.pointer (some ⟨β.p, 0, none⟩)) := blk_cell hq 1; have c5 : wq.cell? ⟨β.s, 5, none⟩ = some (.int .u32 σ3.levels) := blk_cell hq 5; clear hq; first | (go_simp; done) | (go_simp; with_reducible rfl)
      simp only [Act.put, List.setIfInBounds_toArray, List.set_cons_zero, List.set_cons_succ]
      refine wpAnyH_take (i := 7) (oi := ⟨some 50, _, _, _, _, _⟩) (v := ?_) rfl (by kernel_rfl) (by kernel_rfl) (by kernel_rfl) (fun _ _ _ h => h) (Or.inl ⟨by kernel_rfl, ?_⟩) hH ?_
      rotate_left 1
      · intro wq hq; have c1 : wq.cell? ⟨β.s, 1, none⟩ = some (.pointer (some ⟨β.p, 0, none⟩)) := blk_cell hq 1; have c5 : wq.cell? ⟨β.s, 5, none⟩ = some (.int .u32 σ3.levels) := blk_cell hq 5; clear hq; first | (go_simp; done) | (go_simp; with_reducible rfl)
      simp only [Act.put, List.setIfInBounds_toArray, List.set_cons_zero, List.set_cons_succ]
      refine wpAnyH_take (i := 8) (oi := ⟨some 51, _, _, _, _, _⟩) (v := ?_) rfl (by kernel_rfl) (by kernel_rfl) (by kernel_rfl) (fun _ _ _ h => h) (Or.inl ⟨by kernel_rfl, ?_⟩) hH ?_
      rotate_left 1
      · intro wq hq; have c1 : wq.cell? ⟨β.s, 1, none⟩ = some (.pointer (some ⟨β.p, 0, none⟩)) := blk_cell hq 1; have c5 : wq.cell? ⟨β.s, 5, none⟩ = some (.int .u32 σ3.levels) := blk_cell hq 5; clear hq; first | (go_simp; done) | (go_simp; with_reducible rfl)
      simp only [Act.put, List.setIfInBounds_toArray, List.set_cons_zero, List.set_cons_succ]
      refine wpAnyH_ready (rs := [9]) (by kernel_rfl) (by simp) (AllReadyH.cons (o := ⟨some 52, _, _, _, _, _⟩) rfl (fun K hK => ?_) AllReadyH.nil)
      go_simp
      refine (plic_tick σ3.p H3.out.ok.p β.p σ3.levels H3.out.ok.levels _ (H3.out.below (Below.refl _ _).drew).p).mono ?_
      rintro e w4 ⟨rfl, hp⟩
      obtain ⟨h4, t4⟩ := (H3.out.below (Below.refl _ _).drew).plic_to hp (σ3.p.tick_ok _ H3.out.ok.p H3.out.ok.levels)
      have hat : w4.heap[β.s]? = some (.cells (socCells β σ3 lg) 75 (0, 0)) := by have := h4.at_; simp only [socCells] at this ⊢; exact this
      have HT4 := Lib.hid (HT3.out.step t4.of_drew)
      have H4 := Lib.hid h4
      have HAT4 := Lib.hid hat
      clear h4 t4 hat HT3 H3 hp hH
      go_wp2_with fail
      refine hK.out _ _ HAT4.out (fun hH => ?_)
      clear hK K
      try simp only [Act.put, List.setIfInBounds_toArray, List.set_cons_zero, List.set_cons_succ]
      refine wpAnyH_done (by kernel_rfl) ?_ _
      clear hH
      have c0 : w4.cell? ⟨β.s, 0, none⟩ = some (.pointer (some ⟨β.c, 0, none⟩)) := blk_cell HAT4.out 0
      go_wp2_with fail
      refine (clint_tick H4.out.c).mono ?_
      rintro e w5 ⟨rfl, hc⟩
      obtain ⟨h5, t5⟩ := H4.out.clint_to hc H4.out.ok.c.tick
      have hat : w5.heap[β.s]? = some (.cells (socCells β σ3 lg) 75 (0, 0)) := by have := h5.at_; simp only [socCells] at this ⊢; exact this
      have HT5 := Lib.hid (HT4.out.step t5)
      have c4 : w5.cell? ⟨β.s, 4, none⟩ = some (.int .u64 σ3.cycle) := blk_cell hat 4
      have f4 : w5.frozen? ⟨β.s, 4, none⟩ = false := blk_frozen hat 4
      have ecy : IntKind.u64.wrap ((σ3.cycle : Int) + 1) = (((σ3.cycle + 1) % 2 ^ 64 : Nat) : Int) := by rw [IntKind.wrap_u64]; omega
      have H5 := Lib.hid h5
      clear h5 t5 hat hc HT4 H4 HAT4 c0
      generalize hcy : (σ3.cycle + 1) % 2 ^ 64 = cy at *
      have HCY : Hid (cy < 2 ^ 64) := by show _ < _; rw [← hcy]; exact Nat.mod_lt _ (Nat.two_pow_pos 64)
      have HCE := Lib.hid hcy
      clear hcy
      go_wp2
      go_end0
      obtain ⟨h6, t6⟩ := H5.out.cell_to 4 (.int .u64 (cy : Int)) (cy := cy) (lv := σ3.levels) rfl HCY.out H5.out.ok.levels
      refine ⟨rfl, ?_⟩
      rw [HF3.out]
      unfold SocS.end_
      rw [HCE.out]
      exact (HT5.out.step t6).to h6
    · rw [hl] at HF2
      have c5 : w2.cell? ⟨β.s, 5, none⟩ = some (.int .u32 (lvOf l : Nat)) := by have := blk_cell H2.out.at_ 5; rw [← HQ.out.1]; exact this
      have f5 : w2.frozen? ⟨β.s, 5, none⟩ = false := blk_frozen H2.out.at_ 5
      go_wp2_with fail
      obtain ⟨h3, t3⟩ := H2.out.cell_to 5 (.int .u32 ((lvOf l ||| 128 : Nat) : Int)) (cy := σ2.cycle) (lv := lvOf l ||| 128) rfl H2.out.ok.cycle HOR.out
      have HT3 := Lib.hid (HT2.out.step t3)
      generalize w2.setCell ⟨β.s, 5, none⟩ (.int .u32 ((lvOf l ||| 128 : Nat) : Int)) = w3 at *
      obtain ⟨σ3, hσ3⟩ : ∃ σ3 : SocS, ({ σ2 with cycle := σ2.cycle, levels := lvOf l ||| 128 } : SocS) = σ3 := ⟨_, rfl⟩
      have HF3 : Hid (σ.tick l x = σ3.end_) := by show _ = _; rw [HF2.out, ← hσ3, HQ.out.2]; rfl
      rw [hσ3] at h3
      have H3 := Lib.hid h3
      clear hl HF2 HQ HQ1 hσ3 h3 t3 HT2 H2 c5 f5
      refine wp_region_held_drew (S := fun wq => wq.heap[β.s]? = some (.cells (socCells β σ3 lg) 75 (0, 0))) (by kernel_rfl) H3.out.at_ (fun hH => ?_)
      refine wpAnyH_take (i := 0) (oi := ⟨some 43, _, _, _, _, _⟩) (v := ?_) rfl (by kernel_rfl) (by kernel_rfl) (by kernel_rfl) (fun _ _ _ h => h) (Or.inl ⟨by kernel_rfl, ?_⟩) hH ?_
      rotate_left 1
      · intro wq hq; have c1 : wq.cell? ⟨β.s, 1, none⟩ = some (.pointer (some ⟨β.p, 0, none⟩)) := blk_cell hq 1; have c5 : wq.cell? ⟨β.s, 5, none⟩ = some (.int .u32 σ3.levels) := blk_cell hq 5; clear hq; first | (go_simp; done) | (go_simp; with_reducible rfl)
      simp only [Act.put, List.setIfInBounds_toArray, List.set_cons_zero, List.set_cons_succ]
      refine wpAnyH_take (i := 1) (oi := ⟨some 44, _, _, _, _, _⟩) (v := ?_) rfl (by kernel_rfl) (by kernel_rfl) (by kernel_rfl) (fun _ _ _ h => h) (Or.inl ⟨by kernel_rfl, ?_⟩) hH ?_
      rotate_left 1
      · intro wq hq; have c1 : wq.cell? ⟨β.s, 1, none⟩ = some (.pointer (some ⟨β.p, 0, none⟩)) := blk_cell hq 1; have c5 : wq.cell? ⟨β.s, 5, none⟩ = some (.int .u32 σ3.levels) := blk_cell hq 5; clear hq; first | (go_simp; done) | (go_simp; with_reducible rfl)
      simp only [Act.put, List.setIfInBounds_toArray, List.set_cons_zero, List.set_cons_succ]
      refine wpAnyH_take (i := 2) (oi := ⟨some 45, _, _, _, _, _⟩) (v := ?_) rfl (by kernel_rfl) (by kernel_rfl) (by kernel_rfl) (fun _ _ _ h => h) (Or.inl ⟨by kernel_rfl, ?_⟩) hH ?_
      rotate_left 1
      · intro wq hq; have c1 : wq.cell? ⟨β.s, 1, none⟩ = some (.pointer (some ⟨β.p, 0, none⟩)) := blk_cell hq 1; have c5 : wq.cell? ⟨β.s, 5, none⟩ = some (.int .u32 σ3.levels) := blk_cell hq 5; clear hq; first | (go_simp; done) | (go_simp; with_reducible rfl)
      simp only [Act.put, List.setIfInBounds_toArray, List.set_cons_zero, List.set_cons_succ]
      refine wpAnyH_take (i := 3) (oi := ⟨some 46, _, _, _, _, _⟩) (v := ?_) rfl (by kernel_rfl) (by kernel_rfl) (by kernel_rfl) (fun _ _ _ h => h) (Or.inl ⟨by kernel_rfl, ?_⟩) hH ?_
      rotate_left 1
      · intro wq hq; have c1 : wq.cell? ⟨β.s, 1, none⟩ = some (.pointer (some ⟨β.p, 0, none⟩)) := blk_cell hq 1; have c5 : wq.cell? ⟨β.s, 5, none⟩ = some (.int .u32 σ3.levels) := blk_cell hq 5; clear hq; first | (go_simp; done) | (go_simp; with_reducible rfl)
      simp only [Act.put, List.setIfInBounds_toArray, List.set_cons_zero, List.set_cons_succ]
      refine wpAnyH_take (i := 4) (oi := ⟨some 47, _, _, _, _, _⟩) (v := ?_) rfl (by kernel_rfl) (by kernel_rfl) (by kernel_rfl) (fun _ _ _ h => h) (Or.inl ⟨by kernel_rfl, ?_⟩) hH ?_
      rotate_left 1
      · intro wq hq; have c1 : wq.cell? ⟨β.s, 1, none⟩ = some (.pointer (some ⟨β.p, 0, none⟩)) := blk_cell hq 1; have c5 : wq.cell? ⟨β.s, 5, none⟩ = some (.int .u32 σ3.levels) := blk_cell hq 5; clear hq; first | (go_simp; done) | (go_simp; with_reducible rfl)
      simp only [Act.put, List.setIfInBounds_toArray, List.set_cons_zero, List.set_cons_succ]
      refine wpAnyH_take (i := 5) (oi := ⟨some 48, _, _, _, _, _⟩) (v := ?_) rfl (by kernel_rfl) (by kernel_rfl) (by kernel_rfl) (fun _ _ _ h => h) (Or.inl ⟨by kernel_rfl, ?_⟩) hH ?_
      rotate_left 1
      · intro wq hq; have c1 : wq.cell? ⟨β.s, 1, none⟩ = some (.pointer (some ⟨β.p, 0, none⟩)) := blk_cell hq 1; have c5 : wq.cell? ⟨β.s, 5, none⟩ = some (.int .u32 σ3.levels) := blk_cell hq 5; clear hq; first | (go_simp; done) | (go_simp; with_reducible rfl)
      simp only [Act.put, List.setIfInBounds_toArray, List.set_cons_zero, List.set_cons_succ]
      refine wpAnyH_take (i := 6) (oi := ⟨some 49, _, _, _, _, _⟩) (v := ?_) rfl (by kernel_rfl) (by kernel_rfl) (by kernel_rfl) (fun _ _ _ h => h) (Or.inl ⟨by kernel_rfl, ?_⟩) hH ?_
      rotate_left 1
      · intro wq hq; have c1 : wq.cell? ⟨β.s, 1, none⟩ = some (.pointer (some ⟨β.p, 0, none⟩)) := blk_cell hq 1; have c5 : wq.cell? ⟨β.s, 5, none⟩ = some (.int .u32 σ3.levels) := blk_cell hq 5; clear hq; first | (go_simp; done) | (go_simp; with_reducible rfl)
      simp only [Act.put, List.setIfInBounds_toArray, List.set_cons_zero, List.set_cons_succ]
      refine wpAnyH_take (i := 7) (oi := ⟨some 50, _, _, _, _, _⟩) (v := ?_) rfl (by kernel_rfl) (by kernel_rfl) (by kernel_rfl) (fun _ _ _ h => h) (Or.inl ⟨by kernel_rfl, ?_⟩) hH ?_
      rotate_left 1
      · intro wq hq; have c1 : wq.cell? ⟨β.s, 1, none⟩ = some (.pointer (some ⟨β.p, 0, none⟩)) := blk_cell hq 1; have c5 : wq.cell? ⟨β.s, 5, none⟩ = some (.int .u32 σ3.levels) := blk_cell hq 5; clear hq; first | (go_simp; done) | (go_simp; with_reducible rfl)
      simp only [Act.put, List.setIfInBounds_toArray, List.set_cons_zero, List.set_cons_succ]
      refine wpAnyH_take (i := 8) (oi := ⟨some 51, _, _, _, _, _⟩) (v := ?_) rfl (by kernel_rfl) (by kernel_rfl) (by kernel_rfl) (fun _ _ _ h => h) (Or.inl ⟨by kernel_rfl, ?_⟩) hH ?_
      rotate_left 1
      · intro wq hq; have c1 : wq.cell? ⟨β.s, 1, none⟩ = some (.pointer (some ⟨β.p, 0, none⟩)) := blk_cell hq 1; have c5 : wq.cell? ⟨β.s, 5, none⟩ = some (.int .u32 σ3.levels) := blk_cell hq 5; clear hq; first | (go_simp; done) | (go_simp; with_reducible rfl)
      simp only [Act.put, List.setIfInBounds_toArray, List.set_cons_zero, List.set_cons_succ]
      refine wpAnyH_ready (rs := [9]) (by kernel_rfl) (by simp) (AllReadyH.cons (o := ⟨some 52, _, _, _, _, _⟩) rfl (fun K hK => ?_) AllReadyH.nil)
      go_simp
      refine (plic_tick σ3.p H3.out.ok.p β.p σ3.levels H3.out.ok.levels _ (H3.out.below (Below.refl _ _).drew).p).mono ?_
      rintro e w4 ⟨rfl, hp⟩
      obtain ⟨h4, t4⟩ := (H3.out.below (Below.refl _ _).drew).plic_to hp (σ3.p.tick_ok _ H3.out.ok.p H3.out.ok.levels)
      have hat : w4.heap[β.s]? = some (.cells (socCells β σ3 lg) 75 (0, 0)) := by have := h4.at_; simp only [socCells] at this ⊢; exact this
      have HT4 := Lib.hid (HT3.out.step t4.of_drew)
      have H4 := Lib.hid h4
      have HAT4 := Lib.hid hat
      clear h4 t4 hat HT3 H3 hp hH
      go_wp2_with fail
      refine hK.out _ _ HAT4.out (fun hH => ?_)
      clear hK K
      try simp only [Act.put, List.setIfInBounds_toArray, List.set_cons_zero, List.set_cons_succ]
      refine wpAnyH_done (by kernel_rfl) ?_ _
      clear hH
      have c0 : w4.cell? ⟨β.s, 0, none⟩ = some (.pointer (some ⟨β.c, 0, none⟩)) := blk_cell HAT4.out 0
      go_wp2_with fail
      refine (clint_tick H4.out.c).mono ?_
      rintro e w5 ⟨rfl, hc⟩
      obtain ⟨h5, t5⟩ := H4.out.clint_to hc H4.out.ok.c.tick
      have hat : w5.heap[β.s]? = some (.cells (socCells β σ3 lg) 75 (0, 0)) := by have := h5.at_; simp only [socCells] at this ⊢; exact this
      have HT5 := Lib.hid (HT4.out.step t5)
      have c4 : w5.cell? ⟨β.s, 4, none⟩ = some (.int .u64 σ3.cycle) := blk_cell hat 4
      have f4 : w5.frozen? ⟨β.s, 4, none⟩ = false := blk_frozen hat 4
      have ecy : IntKind.u64.wrap ((σ3.cycle : Int) + 1) = (((σ3.cycle + 1) % 2 ^ 64 : Nat) : Int) := by rw [IntKind.wrap_u64]; omega
      have H5 := Lib.hid h5
      clear h5 t5 hat hc HT4 H4 HAT4 c0
      generalize hcy : (σ3.cycle + 1) % 2 ^ 64 = cy at *
      have HCY : Hid (cy < 2 ^ 64) := by show _ < _; rw [← hcy]; exact Nat.mod_lt _ (Nat.two_pow_pos 64)
      have HCE := Lib.hid hcy
      clear hcy
      go_wp2
      go_end0
      obtain ⟨h6, t6⟩ := H5.out.cell_to 4 (.int .u64 (cy : Int)) (cy := cy) (lv := σ3.levels) rfl HCY.out H5.out.ok.levels
      refine ⟨rfl, ?_⟩
      rw [HF3.out]
      unfold SocS.end_
      rw [HCE.out]
      exact (HT5.out.step t6).to h6
  · have HF : Hid (σ.tick l rx = (σ.lvl l).end_) := by show _ = _; unfold SocS.tick SocS.recv; rw [if_neg hrx]
    have hd : decide (0 ≤ rx) = false ∨ decide (0 ≤ rx) = true ∧ decide (rx ≤ 255) = false := by
      by_cases q : 0 ≤ rx
      · exact .inr ⟨by simpa using q, by have : ¬ rx ≤ 255 := fun e => hrx ⟨q, e⟩
                                         simpa using this⟩
      · exact .inl (by simpa using q)
    have HI1 := HI
    have H1 := H
    have HT1 := HT
    clear hrx HI H HT
    rcases hd with hd | ⟨hd, hd2⟩
    · go_enter Try.func10, Try.ntmps10
      go_upto_region 4 with fail
      generalize w.alloc (.cells #[.int .i64 l, .int .i64 rx, .int .i64 q2, .int .i64 q3] 31) = w1 at *
      obtain ⟨σ1, sn1, hσ1, hsn1⟩ : ∃ σ1 sn1, σ1 = σ ∧ sn1 = sn := ⟨_, _, rfl, rfl⟩
      have HF0 : Hid (σ.tick l rx = (σ1.lvl l).end_) := by rw [hσ1]; exact HF
      have H10 : Hid (SocIs w1 β σ1 lg sn1 SR) := by rw [hσ1, hsn1]; exact H1
      have HT10 : Hid (TT w w1 (SocOwn β lg sn SR) (SocOwn β lg sn1 SR)) := by rw [hsn1]; exact HT1
      clear HF H1 HT1 hσ1 hsn1
      have HF := HF0; have H1 := H10; have HT1 := HT10
      clear HF0 H10 HT10
      have i0 : w1.cell? ⟨w.heap.size, 0, none⟩ = some (.int .i64 l) := blk_cell HI1.out 0
      have f5 : w1.frozen? ⟨β.s, 5, none⟩ = false := blk_frozen H1.out.at_ 5
      have c5 : w1.cell? ⟨β.s, 5, none⟩ = some (.int .u32 σ1.levels) := blk_cell H1.out.at_ 5
      have c2 : w1.cell? ⟨β.s, 2, none⟩ = some (.pointer (some ⟨β.u, 0, none⟩)) := blk_cell H1.out.at_ 2
      go_wp2_with fail
      obtain ⟨h2, t2⟩ := H1.out.cell_to 5 (.int .u32 (lvOf l : Nat)) (cy := σ1.cycle) (lv := lvOf l) rfl H1.out.ok.cycle HLV.out
      have HT2 := Lib.hid (HT1.out.step t2)
      generalize w1.setCell ⟨β.s, 5, none⟩ (.int .u32 (lvOf l : Nat)) = w2 at *
      obtain ⟨σ2, hσ2⟩ : ∃ σ2 : SocS, ({ σ1 with cycle := σ1.cycle, levels := lvOf l } : SocS) = σ2 := ⟨_, rfl⟩
      rw [hσ2] at h2
      have HQ : Hid (σ2.levels = lvOf l ∧ ∀ q, ({ σ2 with cycle := σ2.cycle, levels := q } : SocS) = { σ1 with levels := q }) := by subst hσ2; exact ⟨rfl, fun _ => rfl⟩
      have HQ1 : Hid (σ2 = { σ1 with levels := lvOf l }) := hσ2.symm
      have hqu : σ1.u.line = σ2.u.line := by subst hσ2; rfl
      have H2 := Lib.hid h2
      clear t2 h2 HT1 H1 i0 f5 c5 c2 HI1 hσ2
      refine (uart_line H2.out.u H2.out.ok.u).mono ?_
      rintro e w3 ⟨rfl, rfl⟩
      have HF2 : Hid (σ.tick l rx = ({ σ1 with levels := if σ2.u.line then lvOf l ||| 128 else lvOf l } : SocS).end_) := by show _ = _; rw [HF.out, ← hqu]; rfl
      clear hqu HF
      cases hl : σ2.u.line
      · rw [hl] at HF2
        have HF3 : Hid (σ.tick l rx = σ2.end_) := by show _ = _; rw [HF2.out, HQ1.out]; rfl
        generalize hσ3 : σ2 = σ3 at *
        generalize hw3 : w2 = w3 at *
        have H3 := H2; have HT3 := HT2
        clear hl HF2 HQ HQ1 hσ3 hw3 H2 HT2
        go_wp2_with fail
        refine wp_region_held_drew (S := fun wq => wq.heap[β.s]? = some (.cells (socCells β σ3 lg) 75 (0, 0))) (by kernel_rfl) H3.out.at_ (fun hH => ?_)
        refine wpAnyH_take (i := 0) (oi := ⟨some 43, _, _, _, _, _⟩) (v := ?_) rfl (by kernel_rfl) (by kernel_rfl) (by kernel_rfl) (fun _ _ _ h => h) (Or.inl ⟨by kernel_rfl, ?_⟩) hH ?_
        rotate_left 1
        · intro wq hq; have c1 : wq.cell? ⟨β.s, 1, none⟩ = some (.pointer (some ⟨β.p, 0, none⟩)) := blk_cell hq 1; have c5 : wq.cell? ⟨β.s, 5, none⟩ = some (.int .u32 σ3.levels) := blk_cell hq 5; clear hq; first | (go_simp; done) | (go_simp; with_reducible rfl)
        simp only [Act.put, List.setIfInBounds_toArray, List.set_cons_zero, List.set_cons_succ]
        refine wpAnyH_take (i := 1) (oi := ⟨some 44, _, _, _, _, _⟩) (v := ?_) rfl (by kernel_rfl) (by kernel_rfl) (by kernel_rfl) (fun _ _ _ h => h) (Or.inl ⟨by kernel_rfl, ?_⟩) hH ?_
        rotate_left 1
        · intro wq hq; have c1 : wq.cell? ⟨β.s, 1, none⟩ = some (.pointer (some ⟨β.p, 0, none⟩)) := blk_cell hq 1; have c5 : wq.cell? ⟨β.s, 5, none⟩ = some (.int .u32 σ3.levels) := blk_cell hq 5; clear hq; first | (go_simp; done) | (go_simp; with_reducible rfl)
        simp only [Act.put, List.setIfInBounds_toArray, List.set_cons_zero, List.set_cons_succ]
        refine wpAnyH_take (i := 2) (oi := ⟨some 45, _, _, _, _, _⟩) (v := ?_) rfl (by kernel_rfl) (by kernel_rfl) (by kernel_rfl) (fun _ _ _ h => h) (Or.inl ⟨by kernel_rfl, ?_⟩) hH ?_
        rotate_left 1
        · intro wq hq; have c1 : wq.cell? ⟨β.s, 1, none⟩ = some (.pointer (some ⟨β.p, 0, none⟩)) := blk_cell hq 1; have c5 : wq.cell? ⟨β.s, 5, none⟩ = some (.int .u32 σ3.levels) := blk_cell hq 5; clear hq; first | (go_simp; done) | (go_simp; with_reducible rfl)
        simp only [Act.put, List.setIfInBounds_toArray, List.set_cons_zero, List.set_cons_succ]
        refine wpAnyH_take (i := 3) (oi := ⟨some 46, _, _, _, _, _⟩) (v := ?_) rfl (by kernel_rfl) (by kernel_rfl) (by kernel_rfl) (fun _ _ _ h => h) (Or.inl ⟨by kernel_rfl, ?_⟩) hH ?_
        rotate_left 1
        · intro wq hq; have c1 : wq.cell? ⟨β.s, 1, none⟩ = some (.pointer (some ⟨β.p, 0, none⟩)) := blk_cell hq 1; have c5 : wq.cell? ⟨β.s, 5, none⟩ = some (.int .u32 σ3.levels) := blk_cell hq 5; clear hq; first | (go_simp; done) | (go_simp; with_reducible rfl)
        simp only [Act.put, List.setIfInBounds_toArray, List.set_cons_zero, List.set_cons_succ]
        refine wpAnyH_take (i := 4) (oi := ⟨some 47, _, _, _, _, _⟩) (v := ?_) rfl (by kernel_rfl) (by kernel_rfl) (by kernel_rfl) (fun _ _ _ h => h) (Or.inl ⟨by kernel_rfl, ?_⟩) hH ?_
        rotate_left 1
        · intro wq hq; have c1 : wq.cell? ⟨β.s, 1, none⟩ = some (.pointer (some ⟨β.p, 0, none⟩)) := blk_cell hq 1; have c5 : wq.cell? ⟨β.s, 5, none⟩ = some (.int .u32 σ3.levels) := blk_cell hq 5; clear hq; first | (go_simp; done) | (go_simp; with_reducible rfl)
        simp only [Act.put, List.setIfInBounds_toArray, List.set_cons_zero, List.set_cons_succ]
        refine wpAnyH_take (i := 5) (oi := ⟨some 48, _, _, _, _, _⟩) (v := ?_) rfl (by kernel_rfl) (by kernel_rfl) (by kernel_rfl) (fun _ _ _ h => h) (Or.inl ⟨by kernel_rfl, ?_⟩) hH ?_
        rotate_left 1
        · intro wq hq; have c1 : wq.cell? ⟨β.s, 1, none⟩ = some (.pointer (some ⟨β.p, 0, none⟩)) := blk_cell hq 1; have c5 : wq.cell? ⟨β.s, 5, none⟩ = some (.int .u32 σ3.levels) := blk_cell hq 5; clear hq; first | (go_simp; done) | (go_simp; with_reducible rfl)
        simp only [Act.put, List.setIfInBounds_toArray, List.set_cons_zero, List.set_cons_succ]
        refine wpAnyH_take (i := 6) (oi := ⟨some 49, _, _, _, _, _⟩) (v := ?_) rfl (by kernel_rfl) (by kernel_rfl) (by kernel_rfl) (fun _ _ _ h => h) (Or.inl ⟨by kernel_rfl, ?_⟩) hH ?_
        rotate_left 1
        · intro wq hq; have c1 : wq.cell? ⟨β.s, 1, none⟩ = some (.pointer (some ⟨β.p, 0, none⟩)) := blk_cell hq 1; have c5 : wq.cell? ⟨β.s, 5, none⟩ = some (.int .u32 σ3.levels) := blk_cell hq 5; clear hq; first | (go_simp; done) | (go_simp; with_reducible rfl)
        simp only [Act.put, List.setIfInBounds_toArray, List.set_cons_zero, List.set_cons_succ]
        refine wpAnyH_take (i := 7) (oi := ⟨some 50, _, _, _, _, _⟩) (v := ?_) rfl (by kernel_rfl) (by kernel_rfl) (by kernel_rfl) (fun _ _ _ h => h) (Or.inl ⟨by kernel_rfl, ?_⟩) hH ?_
        rotate_left 1
        · intro wq hq; have c1 : wq.cell? ⟨β.s, 1, none⟩ = some (.pointer (some ⟨β.p, 0, none⟩)) := blk_cell hq 1; have c5 : wq.cell? ⟨β.s, 5, none⟩ = some (.int .u32 σ3.levels) := blk_cell hq 5; clear hq; first | (go_simp; done) | (go_simp; with_reducible rfl)
        simp only [Act.put, List.setIfInBounds_toArray, List.set_cons_zero, List.set_cons_succ]
        refine wpAnyH_take (i := 8) (oi := ⟨some 51, _, _, _, _, _⟩) (v := ?_) rfl (by kernel_rfl) (by kernel_rfl) (by kernel_rfl) (fun _ _ _ h => h) (Or.inl ⟨by kernel_rfl, ?_⟩) hH ?_
        rotate_left 1
        · intro wq hq; have c1 : wq.cell? ⟨β.s, 1, none⟩ = some (.pointer (some ⟨β.p, 0, none⟩)) := blk_cell hq 1; have c5 : wq.cell? ⟨β.s, 5, none⟩ = some (.int .u32 σ3.levels) := blk_cell hq 5; clear hq; first | (go_simp; done) | (go_simp; with_reducible rfl)
        simp only [Act.put, List.setIfInBounds_toArray, List.set_cons_zero, List.set_cons_succ]
        refine wpAnyH_ready (rs := [9]) (by kernel_rfl) (by simp) (AllReadyH.cons (o := ⟨some 52, _, _, _, _, _⟩) rfl (fun K hK => ?_) AllReadyH.nil)
        go_simp
        refine (plic_tick σ3.p H3.out.ok.p β.p σ3.levels H3.out.ok.levels _ (H3.out.below (Below.refl _ _).drew).p).mono ?_
        rintro e w4 ⟨rfl, hp⟩
        obtain ⟨h4, t4⟩ := (H3.out.below (Below.refl _ _).drew).plic_to hp (σ3.p.tick_ok _ H3.out.ok.p H3.out.ok.levels)
        have hat : w4.heap[β.s]? = some (.cells (socCells β σ3 lg) 75 (0, 0)) := by have := h4.at_; simp only [socCells] at this ⊢; exact this
        have HT4 := Lib.hid (HT3.out.step t4.of_drew)
        have H4 := Lib.hid h4
        have HAT4 := Lib.hid hat
        clear h4 t4 hat HT3 H3 hp hH
        go_wp2_with fail
        refine hK.out _ _ HAT4.out (fun hH => ?_)
        clear hK K
        try simp only [Act.put, List.setIfInBounds_toArray, List.set_cons_zero, List.set_cons_succ]
        refine wpAnyH_done (by kernel_rfl) ?_ _
        clear hH
        have c0 : w4.cell? ⟨β.s, 0, none⟩ = some (.pointer (some ⟨β.c, 0, none⟩)) := blk_cell HAT4.out 0
        go_wp2_with fail
        refine (clint_tick H4.out.c).mono ?_
        rintro e w5 ⟨rfl, hc⟩
        obtain ⟨h5, t5⟩ := H4.out.clint_to hc H4.out.ok.c.tick
        have hat : w5.heap[β.s]? = some (.cells (socCells β σ3 lg) 75 (0, 0)) := by have := h5.at_; simp only [socCells] at this ⊢; exact this
        have HT5 := Lib.hid (HT4.out.step t5)
        have c4 : w5.cell? ⟨β.s, 4, none⟩ = some (.int .u64 σ3.cycle) := blk_cell hat 4
        have f4 : w5.frozen? ⟨β.s, 4, none⟩ = false := blk_frozen hat 4
        have ecy : IntKind.u64.wrap ((σ3.cycle : Int) + 1) = (((σ3.cycle + 1) % 2 ^ 64 : Nat) : Int) := by rw [IntKind.wrap_u64]; omega
        have H5 := Lib.hid h5
        clear h5 t5 hat hc HT4 H4 HAT4 c0
        generalize hcy : (σ3.cycle + 1) % 2 ^ 64 = cy at *
        have HCY : Hid (cy < 2 ^ 64) := by show _ < _; rw [← hcy]; exact Nat.mod_lt _ (Nat.two_pow_pos 64)
        have HCE := Lib.hid hcy
        clear hcy
        go_wp2
        go_end0
        obtain ⟨h6, t6⟩ := H5.out.cell_to 4 (.int .u64 (cy : Int)) (cy := cy) (lv := σ3.levels) rfl HCY.out H5.out.ok.levels
        refine ⟨rfl, ?_⟩
        rw [HF3.out]
        unfold SocS.end_
        rw [HCE.out]
        exact (HT5.out.step t6).to h6
      · rw [hl] at HF2
        have c5 : w2.cell? ⟨β.s, 5, none⟩ = some (.int .u32 (lvOf l : Nat)) := by have := blk_cell H2.out.at_ 5; rw [← HQ.out.1]; exact this
        have f5 : w2.frozen? ⟨β.s, 5, none⟩ = false := blk_frozen H2.out.at_ 5
        go_wp2_with fail
        obtain ⟨h3, t3⟩ := H2.out.cell_to 5 (.int .u32 ((lvOf l ||| 128 : Nat) : Int)) (cy := σ2.cycle) (lv := lvOf l ||| 128) rfl H2.out.ok.cycle HOR.out
        have HT3 := Lib.hid (HT2.out.step t3)
        generalize w2.setCell ⟨β.s, 5, none⟩ (.int .u32 ((lvOf l ||| 128 : Nat) : Int)) = w3 at *
        obtain ⟨σ3, hσ3⟩ : ∃ σ3 : SocS, ({ σ2 with cycle := σ2.cycle, levels := lvOf l ||| 128 } : SocS) = σ3 := ⟨_, rfl⟩
        have HF3 : Hid (σ.tick l rx = σ3.end_) := by show _ = _; rw [HF2.out, ← hσ3, HQ.out.2]; rfl
        rw [hσ3] at h3
        have H3 := Lib.hid h3
        clear hl HF2 HQ HQ1 hσ3 h3 t3 HT2 H2 c5 f5
        refine wp_region_held_drew (S := fun wq => wq.heap[β.s]? = some (.cells (socCells β σ3 lg) 75 (0, 0))) (by kernel_rfl) H3.out.at_ (fun hH => ?_)
        refine wpAnyH_take (i := 0) (oi := ⟨some 43, _, _, _, _, _⟩) (v := ?_) rfl (by kernel_rfl) (by kernel_rfl) (by kernel_rfl) (fun _ _ _ h => h) (Or.inl ⟨by kernel_rfl, ?_⟩) hH ?_
        rotate_left 1
        · intro wq hq; have c1 : wq.cell? ⟨β.s, 1, none⟩ = some (.pointer (some ⟨β.p, 0, none⟩)) := blk_cell hq 1; have c5 : wq.cell? ⟨β.s, 5, none⟩ = some (.int .u32 σ3.levels) := blk_cell hq 5; clear hq; first | (go_simp; done) | (go_simp; with_reducible rfl)
        simp only [Act.put, List.setIfInBounds_toArray, List.set_cons_zero, List.set_cons_succ]
        refine wpAnyH_take (i := 1) (oi := ⟨some 44, _, _, _, _, _⟩) (v := ?_) rfl (by kernel_rfl) (by kernel_rfl) (by kernel_rfl) (fun _ _ _ h => h) (Or.inl ⟨by kernel_rfl, ?_⟩) hH ?_
        rotate_left 1
        · intro wq hq; have c1 : wq.cell? ⟨β.s, 1, none⟩ = some (.pointer (some ⟨β.p, 0, none⟩)) := blk_cell hq 1; have c5 : wq.cell? ⟨β.s, 5, none⟩ = some (.int .u32 σ3.levels) := blk_cell hq 5; clear hq; first | (go_simp; done) | (go_simp; with_reducible rfl)
        simp only [Act.put, List.setIfInBounds_toArray, List.set_cons_zero, List.set_cons_succ]
        refine wpAnyH_take (i := 2) (oi := ⟨some 45, _, _, _, _, _⟩) (v := ?_) rfl (by kernel_rfl) (by kernel_rfl) (by kernel_rfl) (fun _ _ _ h => h) (Or.inl ⟨by kernel_rfl, ?_⟩) hH ?_
        rotate_left 1
        · intro wq hq; have c1 : wq.cell? ⟨β.s, 1, none⟩ = some (.pointer (some ⟨β.p, 0, none⟩)) := blk_cell hq 1; have c5 : wq.cell? ⟨β.s, 5, none⟩ = some (.int .u32 σ3.levels) := blk_cell hq 5; clear hq; first | (go_simp; done) | (go_simp; with_reducible rfl)
        simp only [Act.put, List.setIfInBounds_toArray, List.set_cons_zero, List.set_cons_succ]
        refine wpAnyH_take (i := 3) (oi := ⟨some 46, _, _, _, _, _⟩) (v := ?_) rfl (by kernel_rfl) (by kernel_rfl) (by kernel_rfl) (fun _ _ _ h => h) (Or.inl ⟨by kernel_rfl, ?_⟩) hH ?_
        rotate_left 1
        · intro wq hq; have c1 : wq.cell? ⟨β.s, 1, none⟩ = some (.pointer (some ⟨β.p, 0, none⟩)) := blk_cell hq 1; have c5 : wq.cell? ⟨β.s, 5, none⟩ = some (.int .u32 σ3.levels) := blk_cell hq 5; clear hq; first | (go_simp; done) | (go_simp; with_reducible rfl)
        simp only [Act.put, List.setIfInBounds_toArray, List.set_cons_zero, List.set_cons_succ]
        refine wpAnyH_take (i := 4) (oi := ⟨some 47, _, _, _, _, _⟩) (v := ?_) rfl (by kernel_rfl) (by kernel_rfl) (by kernel_rfl) (fun _ _ _ h => h) (Or.inl ⟨by kernel_rfl, ?_⟩) hH ?_
        rotate_left 1
        · intro wq hq; have c1 : wq.cell? ⟨β.s, 1, none⟩ = some (.pointer (some ⟨β.p, 0, none⟩)) := blk_cell hq 1; have c5 : wq.cell? ⟨β.s, 5, none⟩ = some (.int .u32 σ3.levels) := blk_cell hq 5; clear hq; first | (go_simp; done) | (go_simp; with_reducible rfl)
        simp only [Act.put, List.setIfInBounds_toArray, List.set_cons_zero, List.set_cons_succ]
        refine wpAnyH_take (i := 5) (oi := ⟨some 48, _, _, _, _, _⟩) (v := ?_) rfl (by kernel_rfl) (by kernel_rfl) (by kernel_rfl) (fun _ _ _ h => h) (Or.inl ⟨by kernel_rfl, ?_⟩) hH ?_
        rotate_left 1
        · intro wq hq; have c1 : wq.cell? ⟨β.s, 1, none⟩ = some (.pointer (some ⟨β.p, 0, none⟩)) := blk_cell hq 1; have c5 : wq.cell? ⟨β.s, 5, none⟩ = some (.int .u32 σ3.levels) := blk_cell hq 5; clear hq; first | (go_simp; done) | (go_simp; with_reducible rfl)
        simp only [Act.put, List.setIfInBounds_toArray, List.set_cons_zero, List.set_cons_succ]
        refine wpAnyH_take (i := 6) (oi := ⟨some 49, _, _, _, _, _⟩) (v := ?_) rfl (by kernel_rfl) (by kernel_rfl) (by kernel_rfl) (fun _ _ _ h => h) (Or.inl ⟨by kernel_rfl, ?_⟩) hH ?_
        rotate_left 1
        · intro wq hq; have c1 : wq.cell? ⟨β.s, 1, none⟩ = some (.pointer (some ⟨β.p, 0, none⟩)) := blk_cell hq 1; have c5 : wq.cell? ⟨β.s, 5, none⟩ = some (.int .u32 σ3.levels) := blk_cell hq 5; clear hq; first | (go_simp; done) | (go_simp; with_reducible rfl)
        simp only [Act.put, List.setIfInBounds_toArray, List.set_cons_zero, List.set_cons_succ]
        refine wpAnyH_take (i := 7) (oi := ⟨some 50, _, _, _, _, _⟩) (v := ?_) rfl (by kernel_rfl) (by kernel_rfl) (by kernel_rfl) (fun _ _ _ h => h) (Or.inl ⟨by kernel_rfl, ?_⟩) hH ?_
        rotate_left 1
        · intro wq hq; have c1 : wq.cell? ⟨β.s, 1, none⟩ = some (.pointer (some ⟨β.p, 0, none⟩)) := blk_cell hq 1; have c5 : wq.cell? ⟨β.s, 5, none⟩ = some (.int .u32 σ3.levels) := blk_cell hq 5; clear hq; first | (go_simp; done) | (go_simp; with_reducible rfl)
        simp only [Act.put, List.setIfInBounds_toArray, List.set_cons_zero, List.set_cons_succ]
        refine wpAnyH_take (i := 8) (oi := ⟨some 51, _, _, _, _, _⟩) (v := ?_) rfl (by kernel_rfl) (by kernel_rfl) (by kernel_rfl) (fun _ _ _ h => h) (Or.inl ⟨by kernel_rfl, ?_⟩) hH ?_
        rotate_left 1
        · intro wq hq; have c1 : wq.cell? ⟨β.s, 1, none⟩ = some (.pointer (some ⟨β.p, 0, none⟩)) := blk_cell hq 1; have c5 : wq.cell? ⟨β.s, 5, none⟩ = some (.int .u32 σ3.levels) := blk_cell hq 5; clear hq; first | (go_simp; done) | (go_simp; with_reducible rfl)
        simp only [Act.put, List.setIfInBounds_toArray, List.set_cons_zero, List.set_cons_succ]
        refine wpAnyH_ready (rs := [9]) (by kernel_rfl) (by simp) (AllReadyH.cons (o := ⟨some 52, _, _, _, _, _⟩) rfl (fun K hK => ?_) AllReadyH.nil)
        go_simp
        refine (plic_tick σ3.p H3.out.ok.p β.p σ3.levels H3.out.ok.levels _ (H3.out.below (Below.refl _ _).drew).p).mono ?_
        rintro e w4 ⟨rfl, hp⟩
        obtain ⟨h4, t4⟩ := (H3.out.below (Below.refl _ _).drew).plic_to hp (σ3.p.tick_ok _ H3.out.ok.p H3.out.ok.levels)
        have hat : w4.heap[β.s]? = some (.cells (socCells β σ3 lg) 75 (0, 0)) := by have := h4.at_; simp only [socCells] at this ⊢; exact this
        have HT4 := Lib.hid (HT3.out.step t4.of_drew)
        have H4 := Lib.hid h4
        have HAT4 := Lib.hid hat
        clear h4 t4 hat HT3 H3 hp hH
        go_wp2_with fail
        refine hK.out _ _ HAT4.out (fun hH => ?_)
        clear hK K
        try simp only [Act.put, List.setIfInBounds_toArray, List.set_cons_zero, List.set_cons_succ]
        refine wpAnyH_done (by kernel_rfl) ?_ _
        clear hH
        have c0 : w4.cell? ⟨β.s, 0, none⟩ = some (.pointer (some ⟨β.c, 0, none⟩)) := blk_cell HAT4.out 0
        go_wp2_with fail
        refine (clint_tick H4.out.c).mono ?_
        rintro e w5 ⟨rfl, hc⟩
        obtain ⟨h5, t5⟩ := H4.out.clint_to hc H4.out.ok.c.tick
        have hat : w5.heap[β.s]? = some (.cells (socCells β σ3 lg) 75 (0, 0)) := by have := h5.at_; simp only [socCells] at this ⊢; exact this
        have HT5 := Lib.hid (HT4.out.step t5)
        have c4 : w5.cell? ⟨β.s, 4, none⟩ = some (.int .u64 σ3.cycle) := blk_cell hat 4
        have f4 : w5.frozen? ⟨β.s, 4, none⟩ = false := blk_frozen hat 4
        have ecy : IntKind.u64.wrap ((σ3.cycle : Int) + 1) = (((σ3.cycle + 1) % 2 ^ 64 : Nat) : Int) := by rw [IntKind.wrap_u64]; omega
        have H5 := Lib.hid h5
        clear h5 t5 hat hc HT4 H4 HAT4 c0
        generalize hcy : (σ3.cycle + 1) % 2 ^ 64 = cy at *
        have HCY : Hid (cy < 2 ^ 64) := by show _ < _; rw [← hcy]; exact Nat.mod_lt _ (Nat.two_pow_pos 64)
        have HCE := Lib.hid hcy
        clear hcy
        go_wp2
        go_end0
        obtain ⟨h6, t6⟩ := H5.out.cell_to 4 (.int .u64 (cy : Int)) (cy := cy) (lv := σ3.levels) rfl HCY.out H5.out.ok.levels
        refine ⟨rfl, ?_⟩
        rw [HF3.out]
        unfold SocS.end_
        rw [HCE.out]
        exact (HT5.out.step t6).to h6
    · go_enter Try.func10, Try.ntmps10
      go_upto_region 4 with fail
      generalize w.alloc (.cells #[.int .i64 l, .int .i64 rx, .int .i64 q2, .int .i64 q3] 31) = w1 at *
      obtain ⟨σ1, sn1, hσ1, hsn1⟩ : ∃ σ1 sn1, σ1 = σ ∧ sn1 = sn := ⟨_, _, rfl, rfl⟩
      have HF0 : Hid (σ.tick l rx = (σ1.lvl l).end_) := by rw [hσ1]; exact HF
      have H10 : Hid (SocIs w1 β σ1 lg sn1 SR) := by rw [hσ1, hsn1]; exact H1
      have HT10 : Hid (TT w w1 (SocOwn β lg sn SR) (SocOwn β lg sn1 SR)) := by rw [hsn1]; exact HT1
      clear HF H1 HT1 hσ1 hsn1
      have HF := HF0; have H1 := H10; have HT1 := HT10
      clear HF0 H10 HT10
      have i0 : w1.cell? ⟨w.heap.size, 0, none⟩ = some (.int .i64 l) := blk_cell HI1.out 0
      have f5 : w1.frozen? ⟨β.s, 5, none⟩ = false := blk_frozen H1.out.at_ 5
      have c5 : w1.cell? ⟨β.s, 5, none⟩ = some (.int .u32 σ1.levels) := blk_cell H1.out.at_ 5
      have c2 : w1.cell? ⟨β.s, 2, none⟩ = some (.pointer (some ⟨β.u, 0, none⟩)) := blk_cell H1.out.at_ 2
      go_wp2_with fail
      obtain ⟨h2, t2⟩ := H1.out.cell_to 5 (.int .u32 (lvOf l : Nat)) (cy := σ1.cycle) (lv := lvOf l) rfl H1.out.ok.cycle HLV.out
      have HT2 := Lib.hid (HT1.out.step t2)
      generalize w1.setCell ⟨β.s, 5, none⟩ (.int .u32 (lvOf l : Nat)) = w2 at *
      obtain ⟨σ2, hσ2⟩ : ∃ σ2 : SocS, ({ σ1 with cycle := σ1.cycle, levels := lvOf l } : SocS) = σ2 := ⟨_, rfl⟩
      rw [hσ2] at h2
      have HQ : Hid (σ2.levels = lvOf l ∧ ∀ q, ({ σ2 with cycle := σ2.cycle, levels := q } : SocS) = { σ1 with levels := q }) := by subst hσ2; exact ⟨rfl, fun _ => rfl⟩
      have HQ1 : Hid (σ2 = { σ1 with levels := lvOf l }) := hσ2.symm
      have hqu : σ1.u.line = σ2.u.line := by subst hσ2; rfl
      have H2 := Lib.hid h2
      clear t2 h2 HT1 H1 i0 f5 c5 c2 HI1 hσ2
      refine (uart_line H2.out.u H2.out.ok.u).mono ?_
      rintro e w3 ⟨rfl, rfl⟩
      have HF2 : Hid (σ.tick l rx = ({ σ1 with levels := if σ2.u.line then lvOf l ||| 128 else lvOf l } : SocS).end_) := by show _ = _; rw [HF.out, ← hqu]; rfl
      clear hqu HF
      cases hl : σ2.u.line
      · rw [hl] at HF2
        have HF3 : Hid (σ.tick l rx = σ2.end_) := by show _ = _; rw [HF2.out, HQ1.out]; rfl
        generalize hσ3 : σ2 = σ3 at *
        generalize hw3 : w2 = w3 at *
        have H3 := H2; have HT3 := HT2
        clear hl HF2 HQ HQ1 hσ3 hw3 H2 HT2
        go_wp2_with fail
        refine wp_region_held_drew (S := fun wq => wq.heap[β.s]? = some (.cells (socCells β σ3 lg) 75 (0, 0))) (by kernel_rfl) H3.out.at_ (fun hH => ?_)
        refine wpAnyH_take (i := 0) (oi := ⟨some 43, _, _, _, _, _⟩) (v := ?_) rfl (by kernel_rfl) (by kernel_rfl) (by kernel_rfl) (fun _ _ _ h => h) (Or.inl ⟨by kernel_rfl, ?_⟩) hH ?_
        rotate_left 1
        · intro wq hq; have c1 : wq.cell? ⟨β.s, 1, none⟩ = some (.pointer (some ⟨β.p, 0, none⟩)) := blk_cell hq 1; have c5 : wq.cell? ⟨β.s, 5, none⟩ = some (.int .u32 σ3.levels) := blk_cell hq 5; clear hq; first | (go_simp; done) | (go_simp; with_reducible rfl)
        simp only [Act.put, List.setIfInBounds_toArray, List.set_cons_zero, List.set_cons_succ]
        refine wpAnyH_take (i := 1) (oi := ⟨some 44, _, _, _, _, _⟩) (v := ?_) rfl (by kernel_rfl) (by kernel_rfl) (by kernel_rfl) (fun _ _ _ h => h) (Or.inl ⟨by kernel_rfl, ?_⟩) hH ?_
        rotate_left 1
        · intro wq hq; have c1 : wq.cell? ⟨β.s, 1, none⟩ = some (.pointer (some ⟨β.p, 0, none⟩)) := blk_cell hq 1; have c5 : wq.cell? ⟨β.s, 5, none⟩ = some (.int .u32 σ3.levels) := blk_cell hq 5; clear hq; first | (go_simp; done) | (go_simp; with_reducible rfl)
        simp only [Act.put, List.setIfInBounds_toArray, List.set_cons_zero, List.set_cons_succ]
        refine wpAnyH_take (i := 2) (oi := ⟨some 45, _, _, _, _, _⟩) (v := ?_) rfl (by kernel_rfl) (by kernel_rfl) (by kernel_rfl) (fun _ _ _ h => h) (Or.inl ⟨by kernel_rfl, ?_⟩) hH ?_
        rotate_left 1
        · intro wq hq; have c1 : wq.cell? ⟨β.s, 1, none⟩ = some (.pointer (some ⟨β.p, 0, none⟩)) := blk_cell hq 1; have c5 : wq.cell? ⟨β.s, 5, none⟩ = some (.int .u32 σ3.levels) := blk_cell hq 5; clear hq; first | (go_simp; done) | (go_simp; with_reducible rfl)
        simp only [Act.put, List.setIfInBounds_toArray, List.set_cons_zero, List.set_cons_succ]
        refine wpAnyH_take (i := 3) (oi := ⟨some 46, _, _, _, _, _⟩) (v := ?_) rfl (by kernel_rfl) (by kernel_rfl) (by kernel_rfl) (fun _ _ _ h => h) (Or.inl ⟨by kernel_rfl, ?_⟩) hH ?_
        rotate_left 1
        · intro wq hq; have c1 : wq.cell? ⟨β.s, 1, none⟩ = some (.pointer (some ⟨β.p, 0, none⟩)) := blk_cell hq 1; have c5 : wq.cell? ⟨β.s, 5, none⟩ = some (.int .u32 σ3.levels) := blk_cell hq 5; clear hq; first | (go_simp; done) | (go_simp; with_reducible rfl)
        simp only [Act.put, List.setIfInBounds_toArray, List.set_cons_zero, List.set_cons_succ]
        refine wpAnyH_take (i := 4) (oi := ⟨some 47, _, _, _, _, _⟩) (v := ?_) rfl (by kernel_rfl) (by kernel_rfl) (by kernel_rfl) (fun _ _ _ h => h) (Or.inl ⟨by kernel_rfl, ?_⟩) hH ?_
        rotate_left 1
        · intro wq hq; have c1 : wq.cell? ⟨β.s, 1, none⟩ = some (.pointer (some ⟨β.p, 0, none⟩)) := blk_cell hq 1; have c5 : wq.cell? ⟨β.s, 5, none⟩ = some (.int .u32 σ3.levels) := blk_cell hq 5; clear hq; first | (go_simp; done) | (go_simp; with_reducible rfl)
        simp only [Act.put, List.setIfInBounds_toArray, List.set_cons_zero, List.set_cons_succ]
        refine wpAnyH_take (i := 5) (oi := ⟨some 48, _, _, _, _, _⟩) (v := ?_) rfl (by kernel_rfl) (by kernel_rfl) (by kernel_rfl) (fun _ _ _ h => h) (Or.inl ⟨by kernel_rfl, ?_⟩) hH ?_
        rotate_left 1
        · intro wq hq; have c1 : wq.cell? ⟨β.s, 1, none⟩ = some (.pointer (some ⟨β.p, 0, none⟩)) := blk_cell hq 1; have c5 : wq.cell? ⟨β.s, 5, none⟩ = some (.int .u32 σ3.levels) := blk_cell hq 5; clear hq; first | (go_simp; done) | (go_simp; with_reducible rfl)
        simp only [Act.put, List.setIfInBounds_toArray, List.set_cons_zero, List.set_cons_succ]
        refine wpAnyH_take (i := 6) (oi := ⟨some 49, _, _, _, _, _⟩) (v := ?_) rfl (by kernel_rfl) (by kernel_rfl) (by kernel_rfl) (fun _ _ _ h => h) (Or.inl ⟨by kernel_rfl, ?_⟩) hH ?_
        rotate_left 1
        · intro wq hq; have c1 : wq.cell? ⟨β.s, 1, none⟩ = some (.pointer (some ⟨β.p, 0, none⟩)) := blk_cell hq 1; have c5 : wq.cell? ⟨β.s, 5, none⟩ = some (.int .u32 σ3.levels) := blk_cell hq 5; clear hq; first | (go_simp; done) | (go_simp; with_reducible rfl)
        simp only [Act.put, List.setIfInBounds_toArray, List.set_cons_zero, List.set_cons_succ]
        refine wpAnyH_take (i := 7) (oi := ⟨some 50, _, _, _, _, _⟩) (v := ?_) rfl (by kernel_rfl) (by kernel_rfl) (by kernel_rfl) (fun _ _ _ h => h) (Or.inl ⟨by kernel_rfl, ?_⟩) hH ?_
        rotate_left 1
        · intro wq hq; have c1 : wq.cell? ⟨β.s, 1, none⟩ = some (.pointer (some ⟨β.p, 0, none⟩)) := blk_cell hq 1; have c5 : wq.cell? ⟨β.s, 5, none⟩ = some (.int .u32 σ3.levels) := blk_cell hq 5; clear hq; first | (go_simp; done) | (go_simp; with_reducible rfl)
        simp only [Act.put, List.setIfInBounds_toArray, List.set_cons_zero, List.set_cons_succ]
        refine wpAnyH_take (i := 8) (oi := ⟨some 51, _, _, _, _, _⟩) (v := ?_) rfl (by kernel_rfl) (by kernel_rfl) (by kernel_rfl) (fun _ _ _ h => h) (Or.inl ⟨by kernel_rfl, ?_⟩) hH ?_
        rotate_left 1
        · intro wq hq; have c1 : wq.cell? ⟨β.s, 1, none⟩ = some (.pointer (some ⟨β.p, 0, none⟩)) := blk_cell hq 1; have c5 : wq.cell? ⟨β.s, 5, none⟩ = some (.int .u32 σ3.levels) := blk_cell hq 5; clear hq; first | (go_simp; done) | (go_simp; with_reducible rfl)
        simp only [Act.put, List.setIfInBounds_toArray, List.set_cons_zero, List.set_cons_succ]
        refine wpAnyH_ready (rs := [9]) (by kernel_rfl) (by simp) (AllReadyH.cons (o := ⟨some 52, _, _, _, _, _⟩) rfl (fun K hK => ?_) AllReadyH.nil)
        go_simp
        refine (plic_tick σ3.p H3.out.ok.p β.p σ3.levels H3.out.ok.levels _ (H3.out.below (Below.refl _ _).drew).p).mono ?_
        rintro e w4 ⟨rfl, hp⟩
        obtain ⟨h4, t4⟩ := (H3.out.below (Below.refl _ _).drew).plic_to hp (σ3.p.tick_ok _ H3.out.ok.p H3.out.ok.levels)
        have hat : w4.heap[β.s]? = some (.cells (socCells β σ3 lg) 75 (0, 0)) := by have := h4.at_; simp only [socCells] at this ⊢; exact this
        have HT4 := Lib.hid (HT3.out.step t4.of_drew)
        have H4 := Lib.hid h4
        have HAT4 := Lib.hid hat
        clear h4 t4 hat HT3 H3 hp hH
        go_wp2_with fail
        refine hK.out _ _ HAT4.out (fun hH => ?_)
        clear hK K
        try simp only [Act.put, List.setIfInBounds_toArray, List.set_cons_zero, List.set_cons_succ]
        refine wpAnyH_done (by kernel_rfl) ?_ _
        clear hH
        have c0 : w4.cell? ⟨β.s, 0, none⟩ = some (.pointer (some ⟨β.c, 0, none⟩)) := blk_cell HAT4.out 0
        go_wp2_with fail
        refine (clint_tick H4.out.c).mono ?_
        rintro e w5 ⟨rfl, hc⟩
        obtain ⟨h5, t5⟩ := H4.out.clint_to hc H4.out.ok.c.tick
        have hat : w5.heap[β.s]? = some (.cells (socCells β σ3 lg) 75 (0, 0)) := by have := h5.at_; simp only [socCells] at this ⊢; exact this
        have HT5 := Lib.hid (HT4.out.step t5)
        have c4 : w5.cell? ⟨β.s, 4, none⟩ = some (.int .u64 σ3.cycle) := blk_cell hat 4
        have f4 : w5.frozen? ⟨β.s, 4, none⟩ = false := blk_frozen hat 4
        have ecy : IntKind.u64.wrap ((σ3.cycle : Int) + 1) = (((σ3.cycle + 1) % 2 ^ 64 : Nat) : Int) := by rw [IntKind.wrap_u64]; omega
        have H5 := Lib.hid h5
        clear h5 t5 hat hc HT4 H4 HAT4 c0
        generalize hcy : (σ3.cycle + 1) % 2 ^ 64 = cy at *
        have HCY : Hid (cy < 2 ^ 64) := by show _ < _; rw [← hcy]; exact Nat.mod_lt _ (Nat.two_pow_pos 64)
        have HCE := Lib.hid hcy
        clear hcy
        go_wp2
        go_end0
        obtain ⟨h6, t6⟩ := H5.out.cell_to 4 (.int .u64 (cy : Int)) (cy := cy) (lv := σ3.levels) rfl HCY.out H5.out.ok.levels
        refine ⟨rfl, ?_⟩
        rw [HF3.out]
        unfold SocS.end_
        rw [HCE.out]
        exact (HT5.out.step t6).to h6
      · rw [hl] at HF2
        have c5 : w2.cell? ⟨β.s, 5, none⟩ = some (.int .u32 (lvOf l : Nat)) := by have := blk_cell H2.out.at_ 5; rw [← HQ.out.1]; exact this
        have f5 : w2.frozen? ⟨β.s, 5, none⟩ = false := blk_frozen H2.out.at_ 5
        go_wp2_with fail
        obtain ⟨h3, t3⟩ := H2.out.cell_to 5 (.int .u32 ((lvOf l ||| 128 : Nat) : Int)) (cy := σ2.cycle) (lv := lvOf l ||| 128) rfl H2.out.ok.cycle HOR.out
        have HT3 := Lib.hid (HT2.out.step t3)
        generalize w2.setCell ⟨β.s, 5, none⟩ (.int .u32 ((lvOf l ||| 128 : Nat) : Int)) = w3 at *
        obtain ⟨σ3, hσ3⟩ : ∃ σ3 : SocS, ({ σ2 with cycle := σ2.cycle, levels := lvOf l ||| 128 } : SocS) = σ3 := ⟨_, rfl⟩
        have HF3 : Hid (σ.tick l rx = σ3.end_) := by show _ = _; rw [HF2.out, ← hσ3, HQ.out.2]; rfl
        rw [hσ3] at h3
        have H3 := Lib.hid h3
        clear hl HF2 HQ HQ1 hσ3 h3 t3 HT2 H2 c5 f5
        refine wp_region_held_drew (S := fun wq => wq.heap[β.s]? = some (.cells (socCells β σ3 lg) 75 (0, 0))) (by kernel_rfl) H3.out.at_ (fun hH => ?_)
        refine wpAnyH_take (i := 0) (oi := ⟨some 43, _, _, _, _, _⟩) (v := ?_) rfl (by kernel_rfl) (by kernel_rfl) (by kernel_rfl) (fun _ _ _ h => h) (Or.inl ⟨by kernel_rfl, ?_⟩) hH ?_
        rotate_left 1
        · intro wq hq; have c1 : wq.cell? ⟨β.s, 1, none⟩ = some (.pointer (some ⟨β.p, 0, none⟩)) := blk_cell hq 1; have c5 : wq.cell? ⟨β.s, 5, none⟩ = some (.int .u32 σ3.levels) := blk_cell hq 5; clear hq; first | (go_simp; done) | (go_simp; with_reducible rfl)
        simp only [Act.put, List.setIfInBounds_toArray, List.set_cons_zero, List.set_cons_succ]
        refine wpAnyH_take (i := 1) (oi := ⟨some 44, _, _, _, _, _⟩) (v := ?_) rfl (by kernel_rfl) (by kernel_rfl) (by kernel_rfl) (fun _ _ _ h => h) (Or.inl ⟨by kernel_rfl, ?_⟩) hH ?_
        rotate_left 1
        · intro wq hq; have c1 : wq.cell? ⟨β.s, 1, none⟩ = some (.pointer (some ⟨β.p, 0, none⟩)) := blk_cell hq 1; have c5 : wq.cell? ⟨β.s, 5, none⟩ = some (.int .u32 σ3.levels) := blk_cell hq 5; clear hq; first | (go_simp; done) | (go_simp; with_reducible rfl)
        simp only [Act.put, List.setIfInBounds_toArray, List.set_cons_zero, List.set_cons_succ]
        refine wpAnyH_take (i := 2) (oi := ⟨some 45, _, _, _, _, _⟩) (v := ?_) rfl (by kernel_rfl) (by kernel_rfl) (by kernel_rfl) (fun _ _ _ h => h) (Or.inl ⟨by kernel_rfl, ?_⟩) hH ?_
        rotate_left 1
        · intro wq hq; have c1 : wq.cell? ⟨β.s, 1, none⟩ = some (.pointer (some ⟨β.p, 0, none⟩)) := blk_cell hq 1; have c5 : wq.cell? ⟨β.s, 5, none⟩ = some (.int .u32 σ3.levels) := blk_cell hq 5; clear hq; first | (go_simp; done) | (go_simp; with_reducible rfl)
        simp only [Act.put, List.setIfInBounds_toArray, List.set_cons_zero, List.set_cons_succ]
        refine wpAnyH_take (i := 3) (oi := ⟨some 46, _, _, _, _, _⟩) (v := ?_) rfl (by kernel_rfl) (by kernel_rfl) (by kernel_rfl) (fun _ _ _ h => h) (Or.inl ⟨by kernel_rfl, ?_⟩) hH ?_
        rotate_left 1
        · intro wq hq; have c1 : wq.cell? ⟨β.s, 1, none⟩ = some (.pointer (some ⟨β.p, 0, none⟩)) := blk_cell hq 1; have c5 : wq.cell? ⟨β.s, 5, none⟩ = some (.int .u32 σ3.levels) := blk_cell hq 5; clear hq; first | (go_simp; done) | (go_simp; with_reducible rfl)
        simp only [Act.put, List.setIfInBounds_toArray, List.set_cons_zero, List.set_cons_succ]
        refine wpAnyH_take (i := 4) (oi := ⟨some 47, _, _, _, _, _⟩) (v := ?_) rfl (by kernel_rfl) (by kernel_rfl) (by kernel_rfl) (fun _ _ _ h => h) (Or.inl ⟨by kernel_rfl, ?_⟩) hH ?_
        rotate_left 1
        · intro wq hq; have c1 : wq.cell? ⟨β.s, 1, none⟩ = some (.pointer (some ⟨β.p, 0, none⟩)) := blk_cell hq 1; have c5 : wq.cell? ⟨β.s, 5, none⟩ = some (.int .u32 σ3.levels) := blk_cell hq 5; clear hq; first | (go_simp; done) | (go_simp; with_reducible rfl)
        simp only [Act.put, List.setIfInBounds_toArray, List.set_cons_zero, List.set_cons_succ]
        refine wpAnyH_take (i := 5) (oi := ⟨some 48, _, _, _, _, _⟩) (v := ?_) rfl (by kernel_rfl) (by kernel_rfl) (by kernel_rfl) (fun _ _ _ h => h) (Or.inl ⟨by kernel_rfl, ?_⟩) hH ?_
        rotate_left 1
        · intro wq hq; have c1 : wq.cell? ⟨β.s, 1, none⟩ = some (.pointer (some ⟨β.p, 0, none⟩)) := blk_cell hq 1; have c5 : wq.cell? ⟨β.s, 5, none⟩ = some (.int .u32 σ3.levels) := blk_cell hq 5; clear hq; first | (go_simp; done) | (go_simp; with_reducible rfl)
        simp only [Act.put, List.setIfInBounds_toArray, List.set_cons_zero, List.set_cons_succ]
        refine wpAnyH_take (i := 6) (oi := ⟨some 49, _, _, _, _, _⟩) (v := ?_) rfl (by kernel_rfl) (by kernel_rfl) (by kernel_rfl) (fun _ _ _ h => h) (Or.inl ⟨by kernel_rfl, ?_⟩) hH ?_
        rotate_left 1
        · intro wq hq; have c1 : wq.cell? ⟨β.s, 1, none⟩ = some (.pointer (some ⟨β.p, 0, none⟩)) := blk_cell hq 1; have c5 : wq.cell? ⟨β.s, 5, none⟩ = some (.int .u32 σ3.levels) := blk_cell hq 5; clear hq; first | (go_simp; done) | (go_simp; with_reducible rfl)
        simp only [Act.put, List.setIfInBounds_toArray, List.set_cons_zero, List.set_cons_succ]
        refine wpAnyH_take (i := 7) (oi := ⟨some 50, _, _, _, _, _⟩) (v := ?_) rfl (by kernel_rfl) (by kernel_rfl) (by kernel_rfl) (fun _ _ _ h => h) (Or.inl ⟨by kernel_rfl, ?_⟩) hH ?_
        rotate_left 1
        · intro wq hq; have c1 : wq.cell? ⟨β.s, 1, none⟩ = some (.pointer (some ⟨β.p, 0, none⟩)) := blk_cell hq 1; have c5 : wq.cell? ⟨β.s, 5, none⟩ = some (.int .u32 σ3.levels) := blk_cell hq 5; clear hq; first | (go_simp; done) | (go_simp; with_reducible rfl)
        simp only [Act.put, List.setIfInBounds_toArray, List.set_cons_zero, List.set_cons_succ]
        refine wpAnyH_take (i := 8) (oi := ⟨some 51, _, _, _, _, _⟩) (v := ?_) rfl (by kernel_rfl) (by kernel_rfl) (by kernel_rfl) (fun _ _ _ h => h) (Or.inl ⟨by kernel_rfl, ?_⟩) hH ?_
        rotate_left 1
        · intro wq hq; have c1 : wq.cell? ⟨β.s, 1, none⟩ = some (.pointer (some ⟨β.p, 0, none⟩)) := blk_cell hq 1; have c5 : wq.cell? ⟨β.s, 5, none⟩ = some (.int .u32 σ3.levels) := blk_cell hq 5; clear hq; first | (go_simp; done) | (go_simp; with_reducible rfl)
        simp only [Act.put, List.setIfInBounds_toArray, List.set_cons_zero, List.set_cons_succ]
        refine wpAnyH_ready (rs := [9]) (by kernel_rfl) (by simp) (AllReadyH.cons (o := ⟨some 52, _, _, _, _, _⟩) rfl (fun K hK => ?_) AllReadyH.nil)
        go_simp
        refine (plic_tick σ3.p H3.out.ok.p β.p σ3.levels H3.out.ok.levels _ (H3.out.below (Below.refl _ _).drew).p).mono ?_
        rintro e w4 ⟨rfl, hp⟩
        obtain ⟨h4, t4⟩ := (H3.out.below (Below.refl _ _).drew).plic_to hp (σ3.p.tick_ok _ H3.out.ok.p H3.out.ok.levels)
        have hat : w4.heap[β.s]? = some (.cells (socCells β σ3 lg) 75 (0, 0)) := by have := h4.at_; simp only [socCells] at this ⊢; exact this
        have HT4 := Lib.hid (HT3.out.step t4.of_drew)
        have H4 := Lib.hid h4
        have HAT4 := Lib.hid hat
        clear h4 t4 hat HT3 H3 hp hH
        go_wp2_with fail
        refine hK.out _ _ HAT4.out (fun hH => ?_)
        clear hK K
        try simp only [Act.put, List.setIfInBounds_toArray, List.set_cons_zero, List.set_cons_succ]
        refine wpAnyH_done (by kernel_rfl) ?_ _
        clear hH
        have c0 : w4.cell? ⟨β.s, 0, none⟩ = some (.pointer (some ⟨β.c, 0, none⟩)) := blk_cell HAT4.out 0
        go_wp2_with fail
        refine (clint_tick H4.out.c).mono ?_
        rintro e w5 ⟨rfl, hc⟩
        obtain ⟨h5, t5⟩ := H4.out.clint_to hc H4.out.ok.c.tick
        have hat : w5.heap[β.s]? = some (.cells (socCells β σ3 lg) 75 (0, 0)) := by have := h5.at_; simp only [socCells] at this ⊢; exact this
        have HT5 := Lib.hid (HT4.out.step t5)
        have c4 : w5.cell? ⟨β.s, 4, none⟩ = some (.int .u64 σ3.cycle) := blk_cell hat 4
        have f4 : w5.frozen? ⟨β.s, 4, none⟩ = false := blk_frozen hat 4
        have ecy : IntKind.u64.wrap ((σ3.cycle : Int) + 1) = (((σ3.cycle + 1) % 2 ^ 64 : Nat) : Int) := by rw [IntKind.wrap_u64]; omega
        have H5 := Lib.hid h5
        clear h5 t5 hat hc HT4 H4 HAT4 c0
        generalize hcy : (σ3.cycle + 1) % 2 ^ 64 = cy at *
        have HCY : Hid (cy < 2 ^ 64) := by show _ < _; rw [← hcy]; exact Nat.mod_lt _ (Nat.two_pow_pos 64)
        have HCE := Lib.hid hcy
        clear hcy
        go_wp2
        go_end0
        obtain ⟨h6, t6⟩ := H5.out.cell_to 4 (.int .u64 (cy : Int)) (cy := cy) (lv := σ3.levels) rfl HCY.out H5.out.ok.levels
        refine ⟨rfl, ?_⟩
        rw [HF3.out]
        unfold SocS.end_
        rw [HCE.out]
        exact (HT5.out.step t6).to h6
theorem soc_tick_nil (l rx q2 q3 : Int) (w : World) : Calls Try.prog 10 #[.pointer none, .agg #[.int .i64 l, .int .i64 rx, .int .i64 q2, .int .i64 q3]] w fun e w' => e = .returned (.tuple #[]) ∧ Below w.heap.size w w' := by
  go_enter Try.func10, Try.ntmps10
  go_wp2
  exact bodyPost_ret (results_none rfl _ _ _) rfl ⟨rfl, (Below.refl _ _).alloc (Nat.le_refl _) _⟩
end Go.Proofs.Ytefcdbpmpnmkjaa
end
