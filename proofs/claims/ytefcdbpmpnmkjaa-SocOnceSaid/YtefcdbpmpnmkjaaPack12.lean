/- Contracts of the soc's Log, a copy of its own, and of Plain on two logs that are alike. No condition. A slice of structs of one-cell fields that came in: its cells, each field's own reading, and how great what lies behind it may be. No condition. The soc's script as it came in: a slice of structs with structs in them. No condition. The soc's Read and Write, whatever the address: what they answer, what they note; two socs of a call's own beside each other. No condition. Two socs beside each other: what each call on one of them does; two states of devices that lie elsewhere. No condition. -/
import Derived.Test.YtefcdbpmpnmkjaaPack5
import Derived.Test.YtefcdbpmpnmkjaaPack6
import Derived.StillTailTactics
import Derived.BigRegion
import Derived.Deep.RegionWith
import Derived.Deep.RegionHeld3
import Derived.Deep.QuietTactic
import Derived.BigQuiet
import Derived.Deep.DeepFit
import Derived.Deep.DeepMust
import Derived.Handy
import Derived.Test.YtefcdbpmpnmkjaaPack3
import Derived.Deep.Slices
import Derived.Deep.Fields
import Derived.Deep.MidRow
import Derived.Test.YtefcdbpmpnmkjaaPack9
import Derived.Deep.LoopGhost
import Derived.Deep.DeepCutAuto
section
set_option linter.unusedVariables false
set_option linter.unusedSimpArgs false
namespace Go.Proofs.Ytefcdbpmpnmkjaa
open Go.RowKit
set_option maxRecDepth 100000
def LogIs (w : World) (l : List Acc) (e : Ending) (w' : World) : Prop := ∃ v, e = .returned v ∧ w'.ownsRow w.heap.size 51 6 v l.length (l.flatMap Acc.vals) ∧ Below w.heap.size w w'
theorem vals_one (l : List Acc) : ∀ u ∈ l.flatMap Acc.vals, u.oneCell' = true := by
  intro u hu
  obtain ⟨a, _, ha⟩ := List.mem_flatMap.1 hu
  simp only [Acc.vals, List.mem_cons, List.not_mem_nil, or_false] at ha
  rcases ha with rfl | rfl | rfl | rfl | rfl | rfl <;> rfl
theorem vals_len (l : List Acc) : (l.flatMap Acc.vals).length = l.length * 6 := by
  induction l with
  | nil => rfl
  | cons a l ih => rw [List.flatMap_cons, List.length_append, ih, List.length_cons]; simp [Acc.vals]; omega
theorem vals_at (l : List Acc) (k j : Nat) (hj : j < 6) (hk : k < l.length) : (l.flatMap Acc.vals)[k * 6 + j]? = ((l[k]).vals)[j]? := by
  induction l generalizing k with
  | nil => simp at hk
  | cons a l ih =>
    rw [List.flatMap_cons]
    cases k with
    | zero => rw [List.getElem?_append_left (by simp [Acc.vals]; omega)]; simp
    | succ k =>
      rw [List.getElem?_append_right (by simp [Acc.vals]; omega)]
      have e : (k + 1) * 6 + j - a.vals.length = k * 6 + j := by simp [Acc.vals]; omega
      rw [e, ih k (by simpa using hk)]
      simp
/-- the accesses lie there, one behind the other -/
def AccRow (w : World) (a : Option Addr) (l : List Acc) : Prop := 0 < l.length → ∃ b o, a = some ⟨b, o, none⟩ ∧ b < w.heap.size ∧ ∀ k (hk : k < l.length), w.rangeAt b (o + k * 6) (l[k]).vals
theorem accRow_own {w : World} {base : Nat} {a : Option Addr} {n c : Nat} {l : List Acc} (h : w.ownsRow base 51 6 (.slice a n c) n (l.flatMap Acc.vals)) (hn : l.length = n) : AccRow w a l := by
  intro h0
  obtain ⟨_, ⟨h1, h2⟩ | ⟨g, cap, cur, h1, _, hg, hn2, hcm, hcs, ht⟩⟩ := h
  · cases h1; omega
  · cases h1
    refine ⟨g, 0, rfl, blk_lt hg, fun k hk j v hv => ?_⟩
    have hj : j < 6 := by have := (List.getElem?_eq_some_iff.1 hv).1; simpa [Acc.vals] using this
    rw [blk_cell hg, Nat.zero_add]
    rw [← vals_at l k j hj hk, ← ht, List.getElem?_take_of_lt (by omega)] at hv
    rw [← Array.getElem?_toList]
    exact hv
theorem AccRow.turned {w w' : World} {a : Option Addr} {l : List Acc} (h : AccRow w a l) (hb : Below w.heap.size w w') : AccRow w' a l := fun h0 => by
  obtain ⟨b, o, h1, h2, h3⟩ := h h0
  exact ⟨b, o, h1, Nat.lt_of_lt_of_le h2 hb.size, fun k hk j v hv => (hb.cell (p := ⟨b, o + k * 6 + j, none⟩) h2).trans (h3 k hk j v hv)⟩
theorem nil_yes (w : World) : (binOp .eql 48 (.slice none 0 0) (.slice none 0 0)).run Try.prog w = .ok (.bool true) w := by kernel_rfl
theorem nil_no (g n c : Nat) (w : World) : (binOp .eql 48 (.slice (some ⟨g, 0, none⟩) n c) (.slice none 0 0)).run Try.prog w = .ok (.bool false) w := by kernel_rfl
set_option maxHeartbeats 2000000 in
theorem soc_clone {w : World} {l : List Acc} {lg : Value} (h : w.ownsRow 0 51 6 lg l.length (l.flatMap Acc.vals)) (hl : l.length < 1000000) :
    Calls Try.prog 45 #[lg] w (LogIs w l) := by
  have h' := h
  obtain ⟨hm, ⟨rfl, h2⟩ | ⟨g, cap, cur, rfl, _, hg, hn2, hcm, hcs, ht⟩⟩ := h
  · have : l = [] := List.eq_nil_of_length_eq_zero (by omega)
    subst this
    clear h' h2 hm hl
    have hz := nil_yes
    go_enter Try.func45, Try.ntmps45
    go_wp2
    go_ret
    exact ⟨_, rfl, World.ownsRow_nil _ _ _ _, Below.refl _ _⟩
  · obtain ⟨i0, hi0, hz0⟩ := Option.map_eq_some_iff.1 acc_info
    simp only [Prod.mk.injEq] at hz0
    have HI := Lib.hid hi0
    have HZ := Lib.hid hz0
    have HONE := Lib.hid (vals_one l)
    have HLEN := Lib.hid (vals_len l)
    have HCELL : Hid (∀ W, Below w.heap.size w W → ∀ j u, (l.flatMap Acc.vals)[j]? = some u → W.cell? ((⟨g, 0, none⟩ : Addr).add j) = some u) := fun W hb j u hu => by
      rw [addr_add, Nat.zero_add]
      refine (hb.cell (p := ⟨g, j, none⟩) (blk_lt hg)).trans ?_
      have hj := (List.getElem?_eq_some_iff.1 hu).1
      rw [blk_cell hg, ← Array.getElem?_toList, ← hu, ← ht, List.getElem?_take_of_lt (by have := vals_len l; omega)]
    have HK1 : Hid ((0 + l.length) * 48 ≤ 140737488355328 ∧ 0 + l.length ≤ maxLen) := by refine ⟨by omega, ?_⟩; unfold maxLen; omega
    clear h' hm hn2 hcm hcs ht hg hl hi0 hz0
    have hz := nil_no g l.length cap
    have HE : Hid ((w.alloc (.cells #[] 51)).ownsRow w.heap.size 51 6 (.slice (some ⟨w.heap.size, 0, none⟩) 0 0) 0 []) := ⟨rfl, .inr ⟨w.heap.size, 0, #[], rfl, Nat.le_refl _, blk_alloc _ _, Nat.le_refl _, Nat.zero_le _, rfl, rfl⟩⟩
    have HBA : Hid (Below w.heap.size w (w.alloc (.cells #[] 51))) := (Below.refl _ w).alloc (Nat.le_refl _) _
    have HBS : Hid (w.heap.size ≤ (w.alloc (.cells #[] 51)).heap.size) := HBA.out.size
    go_enter Try.func45, Try.ntmps45
    go_wp2_with (at_builtin; go_must (with_reducible refine wpList_append_own_at _ rfl (.tmp 5) (.tmp 6) 48 rfl w.heap.size 51 i0 (.agg #[.int .u64 0, .int .u64 0, .int .i64 0, .bool false, .int .u64 0, .bool false]) 6 48 Try.underlying48 HI.out HZ.out.1 HZ.out.2.1 HZ.out.2.2 ?e0 (by decide) (.slice (some ⟨w.heap.size, 0, none⟩) 0 0) 0 [] ?e1 HE.out ⟨g, 0, none⟩ l.length cap (l.flatMap Acc.vals) ?e2 HLEN.out (HCELL.out _ HBA.out) HONE.out HK1.out.2 HK1.out.1 HBS.out ?_); go_must (case e0 => rfl); go_must (case e1 => rfl); go_must (case e2 => rfl); go_must (intro v' w1 hown' hgrow _ _); go_must (have HOW := Lib.hid hown'); go_must (have HG := Lib.hid hgrow); clear hown' hgrow)
    go_ret
    refine ⟨_, rfl, ?_, own_base HE.out HG.out HBA.out HBS.out (Nat.le_refl _)⟩
    have h := HOW.out
    rw [Nat.zero_add, List.nil_append] at h
    exact h
set_option maxHeartbeats 2000000 in
theorem soc_log {w : World} {β : SocB} {σ : SocS} {lg sn : Value} {SR : Nat → Prop} (h : SocIs w β σ lg sn SR) (hl : σ.log.length < 1000000) : Calls Try.prog 14 #[.pointer (some ⟨β.s, 0, none⟩)] w (LogIs w σ.log) := by
  have HC := Lib.hid (soc_clone h.log hl)
  have c6 : w.cell? ⟨β.s, 6, none⟩ = some lg := blk_cell h.at_ 6
  clear h hl
  go_enter Try.func14, Try.ntmps14
  go_wp2_with fail
  refine HC.out.mono ?_
  rintro e w1 ⟨v, rfl, h1, h2⟩
  have H1 := Lib.hid h1; have H2 := Lib.hid h2
  clear h1 h2 HC
  go_wp2
  go_ret
  exact ⟨_, rfl, H1.out, H2.out⟩
theorem acc_eq (a0 a1 a4 : Nat) (a2 : Int) (a3 a5 : Bool) (w : World) : (Op.equalIn 10000 51 (.agg #[.int .u64 a0, .int .u64 a1, .int .i64 a2, .bool a3, .int .u64 a4, .bool a5]) (.agg #[.int .u64 a0, .int .u64 a1, .int .i64 a2, .bool a3, .int .u64 a4, .bool a5])).run Try.prog w = .ok true w := by
  go_simp
set_option maxHeartbeats 2000000 in
theorem eq_acc (a : Acc) (w : World) : Calls Try.prog 51 #[.agg #[.int .u64 a.cycle, .int .u64 a.addr, .int .i64 a.size, .bool a.wr, .int .u64 a.data, .bool a.err], .agg #[.int .u64 a.cycle, .int .u64 a.addr, .int .i64 a.size, .bool a.wr, .int .u64 a.data, .bool a.err]] w fun e w' => e = .returned (.bool true) ∧ Below w.heap.size w w' := by
  have he := acc_eq a.cycle a.addr a.data a.size a.wr a.err
  have hw : Hid (∀ a b, Below w.heap.size w ((w.alloc a).alloc b)) := fun a b => base2 w a b
  go_enter Try.func51, Try.ntmps51
  go_wp2
  go_ret
  exact ⟨rfl, hw.out _ _⟩
set_option maxHeartbeats 4000000 in
theorem same_acc (a1 a2 : Option Addr) (l : List Acc) (m c1 c2 : Nat) (hlm : l.length = m) (w : World) (hm : (m : Int) ≤ 1000000) (h1 : AccRow w a1 l) (h2 : AccRow w a2 l) :
    Calls Try.prog 50 #[.slice a1 m c1, .slice a2 m c2, .func (.func 51) #[] #[]] w fun e w' => e = .returned (.bool true) ∧ Below w.heap.size w w' := by
  have H1 := Lib.hid h1
  have H2 := Lib.hid h2
  have HLM := Lib.hid hlm
  clear h1 h2 hlm
  go_enter Try.func50, Try.ntmps50
  go_wp2_with fail
  go_loopw [7] (fun i wr => ∃ k : Nat, (k : Int) ≤ m ∧ i = .int .i64 k ∧ Below w.heap.size w wr) (fun i _ => m - (intOf i).toNat)
  case atStart => exact ⟨0, by omega, rfl, Below.refl _ _⟩
  case round =>
    obtain ⟨k, hk, rfl, hb⟩ := hrel
    have HB := Lib.hid hb
    clear hb
    by_cases hlt : (k : Int) < m
    · clear hk
      obtain ⟨b1, o1, rfl, l1, hc1⟩ := H1.out (by have := HLM.out; omega)
      obtain ⟨b2, o2, rfl, l2, hc2⟩ := H2.out (by have := HLM.out; omega)
      have hkl : k < l.length := by have := HLM.out; omega
      have e1 : ∀ W, Below w.heap.size w W → W.rangeAt b1 (o1 + k * 6) (l[k]).vals := fun W hb j v hv => (hb.cell (p := ⟨b1, o1 + k * 6 + j, none⟩) l1).trans (hc1 k hkl j v hv)
      have e2 : ∀ W, Below w.heap.size w W → W.rangeAt b2 (o2 + k * 6) (l[k]).vals := fun W hb j v hv => (hb.cell (p := ⟨b2, o2 + k * 6 + j, none⟩) l2).trans (hc2 k hkl j v hv)
      generalize l[k] = x at e1 e2
      have E1 := Lib.hid e1
      have E2 := Lib.hid e2
      clear hc1 hc2 e1 e2 hkl l1 l2
      go_wp2_with fail
      refine wp_region_held_drew (S := fun wq => wq.rangeAt b1 (o1 + k * 6) x.vals ∧ wq.rangeAt b2 (o2 + k * 6) x.vals) (by kernel_rfl) ⟨E1.out _ HB.out.drew, E2.out _ HB.out.drew⟩ (fun hH => ?_)
      refine wpAnyH_take (i := 0) (oi := ⟨some 19, _, _, _, _, _⟩) (v := ?_) rfl (by kernel_rfl) (by kernel_rfl) (by kernel_rfl) (fun _ _ _ h => h) (Or.inl ⟨by kernel_rfl, ?_⟩) hH ?_
      rotate_left 1
      · intro wq hq; obtain ⟨hq1, hq2⟩ := hq; have b10 : wq.cell? ⟨b1, o1 + k * 6, none⟩ = some (.int .u64 x.cycle) := hq1 0 _ rfl; have b11 : wq.cell? ⟨b1, o1 + k * 6 + 1, none⟩ = some (.int .u64 x.addr) := hq1 1 _ rfl; have b12 : wq.cell? ⟨b1, o1 + k * 6 + 1 + 1, none⟩ = some (.int .i64 x.size) := hq1 2 _ rfl; have b13 : wq.cell? ⟨b1, o1 + k * 6 + 1 + 1 + 1, none⟩ = some (.bool x.wr) := hq1 3 _ rfl; have b14 : wq.cell? ⟨b1, o1 + k * 6 + 1 + 1 + 1 + 1, none⟩ = some (.int .u64 x.data) := hq1 4 _ rfl; have b15 : wq.cell? ⟨b1, o1 + k * 6 + 1 + 1 + 1 + 1 + 1, none⟩ = some (.bool x.err) := hq1 5 _ rfl; have b20 : wq.cell? ⟨b2, o2 + k * 6, none⟩ = some (.int .u64 x.cycle) := hq2 0 _ rfl; have b21 : wq.cell? ⟨b2, o2 + k * 6 + 1, none⟩ = some (.int .u64 x.addr) := hq2 1 _ rfl; have b22 : wq.cell? ⟨b2, o2 + k * 6 + 1 + 1, none⟩ = some (.int .i64 x.size) := hq2 2 _ rfl; have b23 : wq.cell? ⟨b2, o2 + k * 6 + 1 + 1 + 1, none⟩ = some (.bool x.wr) := hq2 3 _ rfl; have b24 : wq.cell? ⟨b2, o2 + k * 6 + 1 + 1 + 1 + 1, none⟩ = some (.int .u64 x.data) := hq2 4 _ rfl; have b25 : wq.cell? ⟨b2, o2 + k * 6 + 1 + 1 + 1 + 1 + 1, none⟩ = some (.bool x.err) := hq2 5 _ rfl; clear hq1 hq2; first | (go_simp; done) | (go_simp; with_reducible rfl)
      simp only [Act.put, List.setIfInBounds_toArray, List.set_cons_zero, List.set_cons_succ]
      refine wpAnyH_take (i := 1) (oi := ⟨some 20, _, _, _, _, _⟩) (v := ?_) rfl (by kernel_rfl) (by kernel_rfl) (by kernel_rfl) (fun _ _ _ h => h) (Or.inl ⟨by kernel_rfl, ?_⟩) hH ?_
      rotate_left 1
      · intro wq hq; obtain ⟨hq1, hq2⟩ := hq; have b10 : wq.cell? ⟨b1, o1 + k * 6, none⟩ = some (.int .u64 x.cycle) := hq1 0 _ rfl; have b11 : wq.cell? ⟨b1, o1 + k * 6 + 1, none⟩ = some (.int .u64 x.addr) := hq1 1 _ rfl; have b12 : wq.cell? ⟨b1, o1 + k * 6 + 1 + 1, none⟩ = some (.int .i64 x.size) := hq1 2 _ rfl; have b13 : wq.cell? ⟨b1, o1 + k * 6 + 1 + 1 + 1, none⟩ = some (.bool x.wr) := hq1 3 _ rfl; have b14 : wq.cell? ⟨b1, o1 + k * 6 + 1 + 1 + 1 + 1, none⟩ = some (.int .u64 x.data) := hq1 4 _ rfl; have b15 : wq.cell? ⟨b1, o1 + k * 6 + 1 + 1 + 1 + 1 + 1, none⟩ = some (.bool x.err) := hq1 5 _ rfl; have b20 : wq.cell? ⟨b2, o2 + k * 6, none⟩ = some (.int .u64 x.cycle) := hq2 0 _ rfl; have b21 : wq.cell? ⟨b2, o2 + k * 6 + 1, none⟩ = some (.int .u64 x.addr) := hq2 1 _ rfl; have b22 : wq.cell? ⟨b2, o2 + k * 6 + 1 + 1, none⟩ = some (.int .i64 x.size) := hq2 2 _ rfl; have b23 : wq.cell? ⟨b2, o2 + k * 6 + 1 + 1 + 1, none⟩ = some (.bool x.wr) := hq2 3 _ rfl; have b24 : wq.cell? ⟨b2, o2 + k * 6 + 1 + 1 + 1 + 1, none⟩ = some (.int .u64 x.data) := hq2 4 _ rfl; have b25 : wq.cell? ⟨b2, o2 + k * 6 + 1 + 1 + 1 + 1 + 1, none⟩ = some (.bool x.err) := hq2 5 _ rfl; clear hq1 hq2; first | (go_simp; done) | (go_simp; with_reducible rfl)
      simp only [Act.put, List.setIfInBounds_toArray, List.set_cons_zero, List.set_cons_succ]
      refine wpAnyH_take (i := 2) (oi := ⟨some 21, _, _, _, _, _⟩) (v := ?_) rfl (by kernel_rfl) (by kernel_rfl) (by kernel_rfl) (fun _ _ _ h => h) (Or.inl ⟨by kernel_rfl, ?_⟩) hH ?_
      rotate_left 1
      · intro wq hq; obtain ⟨hq1, hq2⟩ := hq; have b10 : wq.cell? ⟨b1, o1 + k * 6, none⟩ = some (.int .u64 x.cycle) := hq1 0 _ rfl; have b11 : wq.cell? ⟨b1, o1 + k * 6 + 1, none⟩ = some (.int .u64 x.addr) := hq1 1 _ rfl; have b12 : wq.cell? ⟨b1, o1 + k * 6 + 1 + 1, none⟩ = some (.int .i64 x.size) := hq1 2 _ rfl; have b13 : wq.cell? ⟨b1, o1 + k * 6 + 1 + 1 + 1, none⟩ = some (.bool x.wr) := hq1 3 _ rfl; have b14 : wq.cell? ⟨b1, o1 + k * 6 + 1 + 1 + 1 + 1, none⟩ = some (.int .u64 x.data) := hq1 4 _ rfl; have b15 : wq.cell? ⟨b1, o1 + k * 6 + 1 + 1 + 1 + 1 + 1, none⟩ = some (.bool x.err) := hq1 5 _ rfl; have b20 : wq.cell? ⟨b2, o2 + k * 6, none⟩ = some (.int .u64 x.cycle) := hq2 0 _ rfl; have b21 : wq.cell? ⟨b2, o2 + k * 6 + 1, none⟩ = some (.int .u64 x.addr) := hq2 1 _ rfl; have b22 : wq.cell? ⟨b2, o2 + k * 6 + 1 + 1, none⟩ = some (.int .i64 x.size) := hq2 2 _ rfl; have b23 : wq.cell? ⟨b2, o2 + k * 6 + 1 + 1 + 1, none⟩ = some (.bool x.wr) := hq2 3 _ rfl; have b24 : wq.cell? ⟨b2, o2 + k * 6 + 1 + 1 + 1 + 1, none⟩ = some (.int .u64 x.data) := hq2 4 _ rfl; have b25 : wq.cell? ⟨b2, o2 + k * 6 + 1 + 1 + 1 + 1 + 1, none⟩ = some (.bool x.err) := hq2 5 _ rfl; clear hq1 hq2; first | (go_simp; done) | (go_simp; with_reducible rfl)
      simp only [Act.put, List.setIfInBounds_toArray, List.set_cons_zero, List.set_cons_succ]
      refine wpAnyH_take (i := 3) (oi := ⟨some 22, _, _, _, _, _⟩) (v := ?_) rfl (by kernel_rfl) (by kernel_rfl) (by kernel_rfl) (fun _ _ _ h => h) (Or.inl ⟨by kernel_rfl, ?_⟩) hH ?_
      rotate_left 1
      · intro wq hq; obtain ⟨hq1, hq2⟩ := hq; have b10 : wq.cell? ⟨b1, o1 + k * 6, none⟩ = some (.int .u64 x.cycle) := hq1 0 _ rfl; have b11 : wq.cell? ⟨b1, o1 + k * 6 + 1, none⟩ = some (.int .u64 x.addr) := hq1 1 _ rfl; have b12 : wq.cell? ⟨b1, o1 + k * 6 + 1 + 1, none⟩ = some (.int .i64 x.size) := hq1 2 _ rfl; have b13 : wq.cell? ⟨b1, o1 + k * 6 + 1 + 1 + 1, none⟩ = some (.bool x.wr) := hq1 3 _ rfl; have b14 : wq.cell? ⟨b1, o1 + k * 6 + 1 + 1 + 1 + 1, none⟩ = some (.int .u64 x.data) := hq1 4 _ rfl; have b15 : wq.cell? ⟨b1, o1 + k * 6 + 1 + 1 + 1 + 1 + 1, none⟩ = some (.bool x.err) := hq1 5 _ rfl; have b20 : wq.cell? ⟨b2, o2 + k * 6, none⟩ = some (.int .u64 x.cycle) := hq2 0 _ rfl; have b21 : wq.cell? ⟨b2, o2 + k * 6 + 1, none⟩ = some (.int .u64 x.addr) := hq2 1 _ rfl; have b22 : wq.cell? ⟨b2, o2 + k * 6 + 1 + 1, none⟩ = some (.int .i64 x.size) := hq2 2 _ rfl; have b23 : wq.cell? ⟨b2, o2 + k * 6 + 1 + 1 + 1, none⟩ = some (.bool x.wr) := hq2 3 _ rfl; have b24 : wq.cell? ⟨b2, o2 + k * 6 + 1 + 1 + 1 + 1, none⟩ = some (.int .u64 x.data) := hq2 4 _ rfl; have b25 : wq.cell? ⟨b2, o2 + k * 6 + 1 + 1 + 1 + 1 + 1, none⟩ = some (.bool x.err) := hq2 5 _ rfl; clear hq1 hq2; first | (go_simp; done) | (go_simp; with_reducible rfl)
      simp only [Act.put, List.setIfInBounds_toArray, List.set_cons_zero, List.set_cons_succ]
      refine wpAnyH_take (i := 4) (oi := ⟨some 23, _, _, _, _, _⟩) (v := ?_) rfl (by kernel_rfl) (by kernel_rfl) (by kernel_rfl) (fun _ _ _ h => h) (Or.inl ⟨by kernel_rfl, ?_⟩) hH ?_
      rotate_left 1
      · intro wq hq; obtain ⟨hq1, hq2⟩ := hq; have b10 : wq.cell? ⟨b1, o1 + k * 6, none⟩ = some (.int .u64 x.cycle) := hq1 0 _ rfl; have b11 : wq.cell? ⟨b1, o1 + k * 6 + 1, none⟩ = some (.int .u64 x.addr) := hq1 1 _ rfl; have b12 : wq.cell? ⟨b1, o1 + k * 6 + 1 + 1, none⟩ = some (.int .i64 x.size) := hq1 2 _ rfl; have b13 : wq.cell? ⟨b1, o1 + k * 6 + 1 + 1 + 1, none⟩ = some (.bool x.wr) := hq1 3 _ rfl; have b14 : wq.cell? ⟨b1, o1 + k * 6 + 1 + 1 + 1 + 1, none⟩ = some (.int .u64 x.data) := hq1 4 _ rfl; have b15 : wq.cell? ⟨b1, o1 + k * 6 + 1 + 1 + 1 + 1 + 1, none⟩ = some (.bool x.err) := hq1 5 _ rfl; have b20 : wq.cell? ⟨b2, o2 + k * 6, none⟩ = some (.int .u64 x.cycle) := hq2 0 _ rfl; have b21 : wq.cell? ⟨b2, o2 + k * 6 + 1, none⟩ = some (.int .u64 x.addr) := hq2 1 _ rfl; have b22 : wq.cell? ⟨b2, o2 + k * 6 + 1 + 1, none⟩ = some (.int .i64 x.size) := hq2 2 _ rfl; have b23 : wq.cell? ⟨b2, o2 + k * 6 + 1 + 1 + 1, none⟩ = some (.bool x.wr) := hq2 3 _ rfl; have b24 : wq.cell? ⟨b2, o2 + k * 6 + 1 + 1 + 1 + 1, none⟩ = some (.int .u64 x.data) := hq2 4 _ rfl; have b25 : wq.cell? ⟨b2, o2 + k * 6 + 1 + 1 + 1 + 1 + 1, none⟩ = some (.bool x.err) := hq2 5 _ rfl; clear hq1 hq2; first | (go_simp; done) | (go_simp; with_reducible rfl)
      simp only [Act.put, List.setIfInBounds_toArray, List.set_cons_zero, List.set_cons_succ]
      refine wpAnyH_take (i := 5) (oi := ⟨some 24, _, _, _, _, _⟩) (v := ?_) rfl (by kernel_rfl) (by kernel_rfl) (by kernel_rfl) (fun _ _ _ h => h) (Or.inl ⟨by kernel_rfl, ?_⟩) hH ?_
      rotate_left 1
      · intro wq hq; obtain ⟨hq1, hq2⟩ := hq; have b10 : wq.cell? ⟨b1, o1 + k * 6, none⟩ = some (.int .u64 x.cycle) := hq1 0 _ rfl; have b11 : wq.cell? ⟨b1, o1 + k * 6 + 1, none⟩ = some (.int .u64 x.addr) := hq1 1 _ rfl; have b12 : wq.cell? ⟨b1, o1 + k * 6 + 1 + 1, none⟩ = some (.int .i64 x.size) := hq1 2 _ rfl; have b13 : wq.cell? ⟨b1, o1 + k * 6 + 1 + 1 + 1, none⟩ = some (.bool x.wr) := hq1 3 _ rfl; have b14 : wq.cell? ⟨b1, o1 + k * 6 + 1 + 1 + 1 + 1, none⟩ = some (.int .u64 x.data) := hq1 4 _ rfl; have b15 : wq.cell? ⟨b1, o1 + k * 6 + 1 + 1 + 1 + 1 + 1, none⟩ = some (.bool x.err) := hq1 5 _ rfl; have b20 : wq.cell? ⟨b2, o2 + k * 6, none⟩ = some (.int .u64 x.cycle) := hq2 0 _ rfl; have b21 : wq.cell? ⟨b2, o2 + k * 6 + 1, none⟩ = some (.int .u64 x.addr) := hq2 1 _ rfl; have b22 : wq.cell? ⟨b2, o2 + k * 6 + 1 + 1, none⟩ = some (.int .i64 x.size) := hq2 2 _ rfl; have b23 : wq.cell? ⟨b2, o2 + k * 6 + 1 + 1 + 1, none⟩ = some (.bool x.wr) := hq2 3 _ rfl; have b24 : wq.cell? ⟨b2, o2 + k * 6 + 1 + 1 + 1 + 1, none⟩ = some (.int .u64 x.data) := hq2 4 _ rfl; have b25 : wq.cell? ⟨b2, o2 + k * 6 + 1 + 1 + 1 + 1 + 1, none⟩ = some (.bool x.err) := hq2 5 _ rfl; clear hq1 hq2; first | (go_simp; done) | (go_simp; with_reducible rfl)
      simp only [Act.put, List.setIfInBounds_toArray, List.set_cons_zero, List.set_cons_succ]
      refine wpAnyH_take (i := 6) (oi := ⟨some 25, _, _, _, _, _⟩) (v := ?_) rfl (by kernel_rfl) (by kernel_rfl) (by kernel_rfl) (fun _ _ _ h => h) (Or.inl ⟨by kernel_rfl, ?_⟩) hH ?_
      rotate_left 1
      · intro wq hq; obtain ⟨hq1, hq2⟩ := hq; have b10 : wq.cell? ⟨b1, o1 + k * 6, none⟩ = some (.int .u64 x.cycle) := hq1 0 _ rfl; have b11 : wq.cell? ⟨b1, o1 + k * 6 + 1, none⟩ = some (.int .u64 x.addr) := hq1 1 _ rfl; have b12 : wq.cell? ⟨b1, o1 + k * 6 + 1 + 1, none⟩ = some (.int .i64 x.size) := hq1 2 _ rfl; have b13 : wq.cell? ⟨b1, o1 + k * 6 + 1 + 1 + 1, none⟩ = some (.bool x.wr) := hq1 3 _ rfl; have b14 : wq.cell? ⟨b1, o1 + k * 6 + 1 + 1 + 1 + 1, none⟩ = some (.int .u64 x.data) := hq1 4 _ rfl; have b15 : wq.cell? ⟨b1, o1 + k * 6 + 1 + 1 + 1 + 1 + 1, none⟩ = some (.bool x.err) := hq1 5 _ rfl; have b20 : wq.cell? ⟨b2, o2 + k * 6, none⟩ = some (.int .u64 x.cycle) := hq2 0 _ rfl; have b21 : wq.cell? ⟨b2, o2 + k * 6 + 1, none⟩ = some (.int .u64 x.addr) := hq2 1 _ rfl; have b22 : wq.cell? ⟨b2, o2 + k * 6 + 1 + 1, none⟩ = some (.int .i64 x.size) := hq2 2 _ rfl; have b23 : wq.cell? ⟨b2, o2 + k * 6 + 1 + 1 + 1, none⟩ = some (.bool x.wr) := hq2 3 _ rfl; have b24 : wq.cell? ⟨b2, o2 + k * 6 + 1 + 1 + 1 + 1, none⟩ = some (.int .u64 x.data) := hq2 4 _ rfl; have b25 : wq.cell? ⟨b2, o2 + k * 6 + 1 + 1 + 1 + 1 + 1, none⟩ = some (.bool x.err) := hq2 5 _ rfl; clear hq1 hq2; first | (go_simp; done) | (go_simp; with_reducible rfl)
      simp only [Act.put, List.setIfInBounds_toArray, List.set_cons_zero, List.set_cons_succ]
      refine wpAnyH_take (i := 7) (oi := ⟨some 26, _, _, _, _, _⟩) (v := ?_) rfl (by kernel_rfl) (by kernel_rfl) (by kernel_rfl) (fun _ _ _ h => h) (Or.inl ⟨by kernel_rfl, ?_⟩) hH ?_
      rotate_left 1
      · intro wq hq; obtain ⟨hq1, hq2⟩ := hq; have b10 : wq.cell? ⟨b1, o1 + k * 6, none⟩ = some (.int .u64 x.cycle) := hq1 0 _ rfl; have b11 : wq.cell? ⟨b1, o1 + k * 6 + 1, none⟩ = some (.int .u64 x.addr) := hq1 1 _ rfl; have b12 : wq.cell? ⟨b1, o1 + k * 6 + 1 + 1, none⟩ = some (.int .i64 x.size) := hq1 2 _ rfl; have b13 : wq.cell? ⟨b1, o1 + k * 6 + 1 + 1 + 1, none⟩ = some (.bool x.wr) := hq1 3 _ rfl; have b14 : wq.cell? ⟨b1, o1 + k * 6 + 1 + 1 + 1 + 1, none⟩ = some (.int .u64 x.data) := hq1 4 _ rfl; have b15 : wq.cell? ⟨b1, o1 + k * 6 + 1 + 1 + 1 + 1 + 1, none⟩ = some (.bool x.err) := hq1 5 _ rfl; have b20 : wq.cell? ⟨b2, o2 + k * 6, none⟩ = some (.int .u64 x.cycle) := hq2 0 _ rfl; have b21 : wq.cell? ⟨b2, o2 + k * 6 + 1, none⟩ = some (.int .u64 x.addr) := hq2 1 _ rfl; have b22 : wq.cell? ⟨b2, o2 + k * 6 + 1 + 1, none⟩ = some (.int .i64 x.size) := hq2 2 _ rfl; have b23 : wq.cell? ⟨b2, o2 + k * 6 + 1 + 1 + 1, none⟩ = some (.bool x.wr) := hq2 3 _ rfl; have b24 : wq.cell? ⟨b2, o2 + k * 6 + 1 + 1 + 1 + 1, none⟩ = some (.int .u64 x.data) := hq2 4 _ rfl; have b25 : wq.cell? ⟨b2, o2 + k * 6 + 1 + 1 + 1 + 1 + 1, none⟩ = some (.bool x.err) := hq2 5 _ rfl; clear hq1 hq2; first | (go_simp; done) | (go_simp; with_reducible rfl)
      simp only [Act.put, List.setIfInBounds_toArray, List.set_cons_zero, List.set_cons_succ]
      refine wpAnyH_take (i := 8) (oi := ⟨some 27, _, _, _, _, _⟩) (v := ?_) rfl (by kernel_rfl) (by kernel_rfl) (by kernel_rfl) (fun _ _ _ h => h) (Or.inl ⟨by kernel_rfl, ?_⟩) hH ?_
      rotate_left 1
      · intro wq hq; obtain ⟨hq1, hq2⟩ := hq; have b10 : wq.cell? ⟨b1, o1 + k * 6, none⟩ = some (.int .u64 x.cycle) := hq1 0 _ rfl; have b11 : wq.cell? ⟨b1, o1 + k * 6 + 1, none⟩ = some (.int .u64 x.addr) := hq1 1 _ rfl; have b12 : wq.cell? ⟨b1, o1 + k * 6 + 1 + 1, none⟩ = some (.int .i64 x.size) := hq1 2 _ rfl; have b13 : wq.cell? ⟨b1, o1 + k * 6 + 1 + 1 + 1, none⟩ = some (.bool x.wr) := hq1 3 _ rfl; have b14 : wq.cell? ⟨b1, o1 + k * 6 + 1 + 1 + 1 + 1, none⟩ = some (.int .u64 x.data) := hq1 4 _ rfl; have b15 : wq.cell? ⟨b1, o1 + k * 6 + 1 + 1 + 1 + 1 + 1, none⟩ = some (.bool x.err) := hq1 5 _ rfl; have b20 : wq.cell? ⟨b2, o2 + k * 6, none⟩ = some (.int .u64 x.cycle) := hq2 0 _ rfl; have b21 : wq.cell? ⟨b2, o2 + k * 6 + 1, none⟩ = some (.int .u64 x.addr) := hq2 1 _ rfl; have b22 : wq.cell? ⟨b2, o2 + k * 6 + 1 + 1, none⟩ = some (.int .i64 x.size) := hq2 2 _ rfl; have b23 : wq.cell? ⟨b2, o2 + k * 6 + 1 + 1 + 1, none⟩ = some (.bool x.wr) := hq2 3 _ rfl; have b24 : wq.cell? ⟨b2, o2 + k * 6 + 1 + 1 + 1 + 1, none⟩ = some (.int .u64 x.data) := hq2 4 _ rfl; have b25 : wq.cell? ⟨b2, o2 + k * 6 + 1 + 1 + 1 + 1 + 1, none⟩ = some (.bool x.err) := hq2 5 _ rfl; clear hq1 hq2; first | (go_simp; done) | (go_simp; with_reducible rfl)
      simp only [Act.put, List.setIfInBounds_toArray, List.set_cons_zero, List.set_cons_succ]
      refine wpAnyH_ready (rs := [9]) (by kernel_rfl) (by simp) (AllReadyH.cons (o := ⟨some 28, _, _, _, _, _⟩) rfl (fun K hK => ?_) AllReadyH.nil)
      go_simp
      refine (eq_acc x _).mono ?_
      rintro e w1 ⟨rfl, hb⟩
      have HB2 : Hid (Below w.heap.size w w1) := below_then HB.out.drew hb HB.out.size
      clear hb
      go_wp2_with fail
      refine hK.out _ _ ⟨E1.out _ HB2.out, E2.out _ HB2.out⟩ (fun hH => ?_)
      clear hK K
      try simp only [Act.put, List.setIfInBounds_toArray, List.set_cons_zero, List.set_cons_succ]
      refine wpAnyH_take (i := 10) (oi := ⟨some 29, _, _, _, _, _⟩) (v := ?_) rfl (by kernel_rfl) (by kernel_rfl) (by kernel_rfl) (fun _ _ _ h => h) (Or.inl ⟨by kernel_rfl, ?_⟩) hH ?_
      rotate_left 1
      · intro wq hq; obtain ⟨hq1, hq2⟩ := hq; have b10 : wq.cell? ⟨b1, o1 + k * 6, none⟩ = some (.int .u64 x.cycle) := hq1 0 _ rfl; have b11 : wq.cell? ⟨b1, o1 + k * 6 + 1, none⟩ = some (.int .u64 x.addr) := hq1 1 _ rfl; have b12 : wq.cell? ⟨b1, o1 + k * 6 + 1 + 1, none⟩ = some (.int .i64 x.size) := hq1 2 _ rfl; have b13 : wq.cell? ⟨b1, o1 + k * 6 + 1 + 1 + 1, none⟩ = some (.bool x.wr) := hq1 3 _ rfl; have b14 : wq.cell? ⟨b1, o1 + k * 6 + 1 + 1 + 1 + 1, none⟩ = some (.int .u64 x.data) := hq1 4 _ rfl; have b15 : wq.cell? ⟨b1, o1 + k * 6 + 1 + 1 + 1 + 1 + 1, none⟩ = some (.bool x.err) := hq1 5 _ rfl; have b20 : wq.cell? ⟨b2, o2 + k * 6, none⟩ = some (.int .u64 x.cycle) := hq2 0 _ rfl; have b21 : wq.cell? ⟨b2, o2 + k * 6 + 1, none⟩ = some (.int .u64 x.addr) := hq2 1 _ rfl; have b22 : wq.cell? ⟨b2, o2 + k * 6 + 1 + 1, none⟩ = some (.int .i64 x.size) := hq2 2 _ rfl; have b23 : wq.cell? ⟨b2, o2 + k * 6 + 1 + 1 + 1, none⟩ = some (.bool x.wr) := hq2 3 _ rfl; have b24 : wq.cell? ⟨b2, o2 + k * 6 + 1 + 1 + 1 + 1, none⟩ = some (.int .u64 x.data) := hq2 4 _ rfl; have b25 : wq.cell? ⟨b2, o2 + k * 6 + 1 + 1 + 1 + 1 + 1, none⟩ = some (.bool x.err) := hq2 5 _ rfl; clear hq1 hq2; first | (go_simp; done) | (go_simp; with_reducible rfl)
      simp only [Act.put, List.setIfInBounds_toArray, List.set_cons_zero, List.set_cons_succ]
      refine wpAnyH_done (by kernel_rfl) ?_ _
      clear hH
      go_wp2_with fail
      exact ⟨⟨k + 1, by omega, by rw [Int.natCast_succ], HB2.out⟩, by simp [intOf]; omega⟩
    · obtain rfl : k = m := by omega
      go_wp2_with fail
      go_ret
      exact ⟨rfl, HB.out⟩
set_option maxHeartbeats 2000000 in
theorem plain_acc (a1 a2 : Option Addr) (l : List Acc) (m c1 c2 : Nat) (hlm : l.length = m) (w : World) (hm : (m : Int) ≤ 1000000) (h1 : AccRow w a1 l) (h2 : AccRow w a2 l) :
    Calls Try.prog 18 #[.slice a1 m c1, .slice a2 m c2] w fun e w' => e = .returned (.bool true) ∧ Below w.heap.size w w' := by
  have H := Lib.hid (same_acc a1 a2 l m c1 c2 hlm w hm h1 h2)
  clear h1 h2 hlm
  go_enter Try.func18, Try.ntmps18
  go_wp2_with fail
  refine H.out.mono ?_
  rintro e w1 ⟨rfl, hb⟩
  have HB := Lib.hid hb
  clear hb
  go_wp2_with fail
  go_ret
  exact ⟨rfl, HB.out⟩
end Go.Proofs.Ytefcdbpmpnmkjaa
end
section
set_option linter.unusedVariables false
namespace Go.Proofs.Ytefcdbpmpnmkjaa
open Go.ChangeShapes Go.WideShapes Go.RowKit Go.Deep
section
variable {H : Type} {enc : TypeId × Value → H} {P : Program} {W : World}
theorem weights_mem_all {e : TypeId} : ∀ {l : List (DataW H)} {d : DataW H}, d ∈ l → ∀ n ∈ d.weights P e, n ∈ DataW.weightsAll P e l
  | d :: r, _, .head _, n, hn => by simp only [DataW.weightsAll, List.mem_append]; exact .inl hn
  | d' :: r, d, .tail _ h, n, hn => by simp only [DataW.weightsAll, List.mem_append]; exact .inr (weights_mem_all h n hn)
/-- how great each part of a datum may be -/
def Light (P : Program) (t : TypeId) (d : DataW H) : Prop := ∀ n ∈ d.weights P t, n ≤ reachBytes
theorem light_arg {ts : List TypeId} {ds : List (DataW H)} (h : (DataW.weightsEach P ts ds).all (· ≤ reachBytes) = true) {j : Nat} {t : TypeId} {d : DataW H} (ht : ts[j]? = some t) (hd : ds[j]? = some d) : Light P t d := fun n hn => by
  have := List.all_eq_true.1 h n (DataW.weights_mem_each ht hd n hn)
  simpa using this
theorem Light.elem {t e : TypeId} (hu : P.underlying t = some (.slice e)) {elems spare : List (DataW H)} (h : Light P t (.slice elems spare)) {d : DataW H} (hd : d ∈ elems ∨ d ∈ spare) : Light P e d := fun n hn => by
  refine h n ?_
  simp only [DataW.weights, hu, List.mem_cons, List.mem_append]
  exact .inr (hd.imp (fun h => weights_mem_all h n hn) (fun h => weights_mem_all h n hn))
theorem Light.field {t : TypeId} {fs : Array Field} (hu : P.underlying t = some (.struct fs)) {parts : List (DataW H)} (h : Light P t (.agg parts)) {j : Nat} {f : Field} {d : DataW H} (hf : fs[j]? = some f) (hd : parts[j]? = some d) : Light P f.type d := fun n hn => by
  refine h n ?_
  simp only [DataW.weights, hu]
  exact DataW.weights_mem_each (j := j) (t := f.type) (by simp [hf]) hd n hn
theorem Light.slice {t e : TypeId} (hu : P.underlying t = some (.slice e)) {elems spare : List (DataW H)} (h : Light P t (.slice elems spare)) {b : Nat} (hb : P.bytesOf e = b) : (elems.length + spare.length) * b ≤ 140737488351232 := by
  have := h ((elems.length + spare.length) * P.bytesOf e) (by simp [DataW.weights, hu])
  rw [hb] at this
  exact this
/-- one field's own reading -/
def FieldAt (enc : TypeId × Value → H) (P : Program) (W : World) (t : TypeId) (v : Value) : Prop := ∃ n y, DataW.trod enc P W 0 (fun _ => true) true n t [v] = some y ∧ Light P t y.1
/-- the slice's elements: so many values each, each field readable -/
theorem arg_fields {t e : TypeId} {fs : Array Field} (ht : P.underlying t = some (.slice e)) (he : P.underlying e = some (.struct fs)) (hone : oneCellFields P fs = true) (hC : P.cellsOf e = fs.size)
    {a : Option Addr} {len cap : Nat} {d : DataW H} {p : List MemPlace} {b0 : Nat} (hv : Value.okWide P W .any b0 t (.slice a len cap)) (h : DataW.Trod enc P W 0 (fun _ => true) true t (.slice a len cap) d p) (hl : Light P t d) :
    len ≤ cap ∧ cap ≤ 9223372036854775807 ∧ ∀ i, i < cap → ∃ vs : List Value, vs.length = fs.size ∧ (∃ b o, a = some ⟨b, o, none⟩ ∧ b < W.heap.size ∧ (0 < fs.size → W.rangeAt b (o + i * fs.size) vs)) ∧ ∀ (j : Nat) (f : Field), fs[j]? = some f → ∃ v, vs[j]? = some v ∧ FieldAt enc P W f.type v := by
  have hform := slice_form ht hv
  obtain ⟨fuel, hf⟩ := h
  rcases open_slice ht hf with ⟨hcs, hx⟩ | ⟨ad, len', cap', m, n, D, Pl, hcs, _, hle, hm, hmm, hx, hi⟩
  · simp [Value.cells] at hcs
    obtain ⟨rfl, rfl, rfl⟩ := hcs
    exact ⟨Nat.le_refl _, by omega, fun i h => absurd h (by omega)⟩
  · simp [Value.cells] at hcs
    obtain ⟨rfl, rfl, rfl⟩ := hcs
    simp only [if_true] at hmm
    subst hmm
    simp only [Prod.mk.injEq] at hx
    refine ⟨hle, hm, fun i him => ?_⟩
    obtain ⟨cs', hc, ht'⟩ := hi i him
    rw [hC] at hc
    obtain ⟨ys, n', hn', hy, hlen, hyl, hg⟩ := DataW.trod_struct he ht'
    obtain ⟨_, hcl, hat⟩ := World.cells?_some hc
    simp only [Prod.mk.injEq] at hy
    have hD : Light P e (D i) := by
      rw [hx.1] at hl
      refine hl.elem ht ?_
      by_cases h1 : i < len
      · exact .inl (List.mem_map.2 ⟨i, List.mem_range.2 h1, rfl⟩)
      · exact .inr (List.mem_map.2 ⟨i - len, List.mem_range.2 (by omega), by rw [show len + (i - len) = i by omega]⟩)
    refine ⟨cs', hcl, ?_, fun j f hj => ?_⟩
    · rcases hform with h0 | ⟨b, o, h1, h2⟩
      · cases h0
      · refine ⟨b, o, h1, h2, fun _ j v hj => ?_⟩
        cases h1
        have hjl : j < fs.size := by have := (List.getElem?_eq_some_iff.1 hj).1; omega
        have h3 := hat j hjl
        rw [Addr.add_mid, Addr.add_mid] at h3
        rw [h3]
        exact hj
    · obtain ⟨ho, hk⟩ := hone_of hone j f hj
      have hjl : j < fs.size := (Array.getElem?_eq_some_iff.1 hj).1
      have hvj : cs'[j]? = some (cs'[j]'(by omega)) := List.getElem?_eq_getElem (by omega)
      have h1 := hg j f hj
      rw [ho, hk] at h1
      have hone' : (cs'.drop j).take 1 = [cs'[j]'(by omega)] := by
        rw [List.drop_eq_getElem_cons (by omega)]
        rfl
      rw [hone'] at h1
      have hys : ys[j]? = some (ys[j]'(by omega)) := List.getElem?_eq_getElem (by omega)
      refine ⟨_, hvj, n', _, h1.trans hys, ?_⟩
      rw [hy.1] at hD
      exact hD.field he hj (by simp [hys])
theorem FieldAt.int {t : TypeId} {k : IntKind} (ht : P.underlying t = some (.int k)) {v : Value} (h : FieldAt enc P W t v) : ∃ x, v = .int k x ∧ (Lit.int k x).wf = true := by
  obtain ⟨n, y, h, _⟩ := h
  obtain ⟨x, h1, _, h3⟩ := DataW.trod_int ht h
  exact ⟨x, by simpa using h1, h3⟩
theorem FieldAt.bool {t : TypeId} (ht : P.underlying t = some .bool) {v : Value} (h : FieldAt enc P W t v) : ∃ x, v = .bool x := by
  obtain ⟨n, y, h, _⟩ := h
  obtain ⟨x, h1, _⟩ := DataW.trod_bool ht h
  exact ⟨x, by simpa using h1⟩
/-- an inner slice -/
structure InRow (W : World) (a : Option Addr) (len cap : Nat) (V : Nat → Value) : Prop where
  le : len ≤ cap
  nil : a = none → cap = 0
  row : IsRow W a cap V
  big : cap ≤ 140737488351232
theorem FieldAt.ints {t e : TypeId} {k : IntKind} (ht : P.underlying t = some (.slice e)) (he : P.underlying e = some (.int k)) (hc : P.cellsOf e = 1) {b : Nat} (hb : P.bytesOf e = b) (hb1 : 1 ≤ b) {v : Value} (h : FieldAt enc P W t v) :
    ∃ (a : Option Addr) (len cap : Nat) (z : Nat → Int), v = .slice a len cap ∧ (∀ i, (Lit.int k (z i)).wf = true) ∧ InRow W a len cap (fun i => .int k (z i)) := by
  obtain ⟨n, y, h, hl⟩ := h
  have hw0 : (Lit.int k 0).wf = true := by cases k <;> decide
  rcases open_ints ht he hc h with ⟨hcs, hx⟩ | ⟨ad, len, cap, zs, hcs, _, hle, hm, hz, hx, hcell, hwz⟩
  · simp at hcs
    subst hcs
    exact ⟨none, 0, 0, fun _ => 0, rfl, fun _ => hw0, ⟨Nat.le_refl _, fun _ => rfl, fun h => absurd h (by omega), by omega⟩⟩
  · simp at hcs
    subst hcs
    simp only [if_true] at hz
    refine ⟨some ad, len, cap, fun i => zs.getD i 0, rfl, fun i => ?_, ⟨hle, (fun h => nomatch h), row_of_cells fun i hi => hcell i (by omega), ?_⟩⟩
    · by_cases hi : i < zs.length
      · have e : zs.getD i 0 = zs[i] := by simp [List.getD, hi]
        simp only [e]; exact hwz _ (List.getElem_mem hi)
      · have e : zs.getD i 0 = 0 := by simp [List.getD, hi]
        simp only [e]; exact hw0
    · rw [show y = _ from hx] at hl
      have := hl.slice ht hb
      simp [lits] at this
      have h2 : cap * 1 ≤ (min len zs.length + (zs.length - len)) * b := Nat.mul_le_mul (by omega) hb1
      omega
theorem FieldAt.bools {t e : TypeId} (ht : P.underlying t = some (.slice e)) (he : P.underlying e = some .bool) (hc : P.cellsOf e = 1) {b : Nat} (hb : P.bytesOf e = b) (hb1 : 1 ≤ b) {v : Value} (h : FieldAt enc P W t v) :
    ∃ (a : Option Addr) (len cap : Nat) (z : Nat → Bool), v = .slice a len cap ∧ InRow W a len cap (fun i => .bool (z i)) := by
  obtain ⟨n, y, h, hl⟩ := h
  rcases open_bools ht he hc h with ⟨hcs, hx⟩ | ⟨ad, len, cap, z, hcs, _, hle, hm, hx, hcell⟩
  · simp at hcs
    subst hcs
    exact ⟨none, 0, 0, fun _ => false, rfl, ⟨Nat.le_refl _, fun _ => rfl, fun h => absurd h (by omega), by omega⟩⟩
  · simp at hcs
    subst hcs
    refine ⟨some ad, len, cap, z, rfl, ⟨hle, (fun h => nomatch h), row_of_cells fun i hi => hcell i ?_, ?_⟩⟩
    · simpa using hi
    · rw [show y = _ from hx] at hl
      have := hl.slice ht hb
      simp at this
      have h2 : cap * 1 ≤ (len + (cap - len)) * b := Nat.mul_le_mul (by omega) hb1
      omega
end
end Go.Proofs.Ytefcdbpmpnmkjaa
end
section
set_option linter.unusedVariables false
set_option linter.unusedSimpArgs false
namespace Go.Proofs.Ytefcdbpmpnmkjaa
open Go.ChangeShapes Go.WideShapes Go.RowKit Go.Deep
section
variable {H : Type} {enc : TypeId × Value → H} {P : Program} {W : World}
/-- some cells' own reading -/
def PartAt (enc : TypeId × Value → H) (P : Program) (W : World) (t : TypeId) (cs : List Value) : Prop := ∃ n y, DataW.trod enc P W 0 (fun _ => true) true n t cs = some y ∧ Light P t y.1
theorem PartAt.one {t : TypeId} {v : Value} (h : PartAt enc P W t [v]) : FieldAt enc P W t v := h
theorem PartAt.field {e : TypeId} {fs : Array Field} (he : P.underlying e = some (.struct fs)) {cs : List Value} (h : PartAt enc P W e cs) (j : Nat) (f : Field) (hj : fs[j]? = some f) : PartAt enc P W f.type ((cs.drop f.offset).take (P.cellsOf f.type)) := by
  obtain ⟨n, y, ht, hl⟩ := h
  obtain ⟨ys, n', hn', hy, hlen, hyl, hg⟩ := DataW.trod_struct he ht
  have hjl : j < fs.size := (Array.getElem?_eq_some_iff.1 hj).1
  have h1 := hg j f hj
  have hys : ys[j]? = some (ys[j]'(by omega)) := List.getElem?_eq_getElem (by omega)
  refine ⟨n', _, h1.trans hys, ?_⟩
  rw [hy] at hl
  exact hl.field he hj (by simp [hys])
theorem arg_parts {t e : TypeId} (ht : P.underlying t = some (.slice e)) {k : Nat} (hC : P.cellsOf e = k)
    {a : Option Addr} {len cap : Nat} {d : DataW H} {p : List MemPlace} {b0 : Nat} (hv : Value.okWide P W .any b0 t (.slice a len cap)) (h : DataW.Trod enc P W 0 (fun _ => true) true t (.slice a len cap) d p) (hl : Light P t d) :
    len ≤ cap ∧ cap ≤ 9223372036854775807 ∧ ∀ i, i < cap → ∃ vs : List Value, vs.length = k ∧ (∃ b o, a = some ⟨b, o, none⟩ ∧ b < W.heap.size ∧ W.rangeAt b (o + i * k) vs) ∧ PartAt enc P W e vs := by
  have hform := slice_form ht hv
  obtain ⟨fuel, hf⟩ := h
  rcases open_slice ht hf with ⟨hcs, hx⟩ | ⟨ad, len', cap', m, n, D, Pl, hcs, _, hle, hm, hmm, hx, hi⟩
  · simp [Value.cells] at hcs
    obtain ⟨rfl, rfl, rfl⟩ := hcs
    exact ⟨Nat.le_refl _, by omega, fun i h => absurd h (by omega)⟩
  · simp [Value.cells] at hcs
    obtain ⟨rfl, rfl, rfl⟩ := hcs
    simp only [if_true] at hmm
    subst hmm
    simp only [Prod.mk.injEq] at hx
    refine ⟨hle, hm, fun i him => ?_⟩
    obtain ⟨cs', hc, ht'⟩ := hi i him
    rw [hC] at hc
    obtain ⟨_, hcl, hat⟩ := World.cells?_some hc
    have hD : Light P e (D i) := by
      rw [hx.1] at hl
      refine hl.elem ht ?_
      by_cases h1 : i < len
      · exact .inl (List.mem_map.2 ⟨i, List.mem_range.2 h1, rfl⟩)
      · exact .inr (List.mem_map.2 ⟨i - len, List.mem_range.2 (by omega), by rw [show len + (i - len) = i by omega]⟩)
    refine ⟨cs', hcl, ?_, _, _, ht', hD⟩
    rcases hform with h0 | ⟨b, o, h1, h2⟩
    · cases h0
    · refine ⟨b, o, h1, h2, fun j v hj => ?_⟩
      cases h1
      have hjl : j < k := by have := (List.getElem?_eq_some_iff.1 hj).1; omega
      have h3 := hat j hjl
      rw [Addr.add_mid, Addr.add_mid] at h3
      rw [h3]
      exact hj
end
/-- one call of the script -/
structure SocOp where
  kind : Int
  l : Int
  rx : Int
  q2 : Int
  q3 : Int
  pa : Nat
  size : Int
  v : Nat
  port : Int
  id : Int
  ak : Int
  aa : Nat
  beats : Int
  da : Option Addr
  dl : Nat
  dc : Nat
  sa : Option Addr
  sl : Nat
  sc : Nat
  asz : Int
  V : Nat → Int
  Z : Nat → Bool
instance : Inhabited SocOp := ⟨⟨0, 0, 0, 0, 0, 0, 0, 0, 0, 0, 0, 0, 0, none, 0, 0, none, 0, 0, 0, fun _ => 0, fun _ => false⟩⟩
def SocOp.vals (o : SocOp) : List Value := [.int .i64 o.kind, .int .i64 o.l, .int .i64 o.rx, .int .i64 o.q2, .int .i64 o.q3, .int .u64 o.pa, .int .i64 o.size, .int .u64 o.v, .int .i64 o.port, .int .i64 o.id, .int .i64 o.ak, .int .u64 o.aa, .int .i64 o.beats, .slice o.da o.dl o.dc, .slice o.sa o.sl o.sc, .int .i64 o.asz]
structure SocOp.Ok (W : World) (o : SocOp) : Prop where
  pa : o.pa < 2 ^ 64
  v : o.v < 2 ^ 64
  aa : o.aa < 2 ^ 64
  V : ∀ i, 0 ≤ o.V i ∧ o.V i ≤ 255
  row : InRow W o.da o.dl o.dc (fun i => .int .u8 (o.V i))
  row2 : InRow W o.sa o.sl o.sc (fun i => .bool (o.Z i))
def SocOps (W : World) (a : Option Addr) (len : Nat) (z : Nat → SocOp) : Prop := ∀ i, i < len → (z i).Ok W ∧ ∃ b o, a = some ⟨b, o, none⟩ ∧ b < W.heap.size ∧ W.rangeAt b (o + i * 16) (z i).vals
theorem nat_of_u64 {x : Int} (h : (Lit.int .u64 x).wf = true) : ∃ n : Nat, x = (n : Int) ∧ n < 2 ^ 64 := by
  have := wf_u64' h
  exact ⟨x.toNat, by omega, by omega⟩
set_option maxRecDepth 100000 in
theorem arg_socops {H : Type} {enc : TypeId × Value → H} {W : World} {a : Option Addr} {len cap : Nat} {d : DataW H} {p : List MemPlace} {b0 : Nat} (hv : Value.okWide Try.prog W .any b0 45 (.slice a len cap)) (h : DataW.Trod enc Try.prog W 0 (fun _ => true) true 45 (.slice a len cap) d p) (hl : Light Try.prog 45 d) :
    len ≤ cap ∧ cap ≤ 9223372036854775807 ∧ ∃ z : Nat → SocOp, SocOps W a cap z := by
  obtain ⟨h1, h2, h3⟩ := arg_parts Try.underlying45 (k := 16) (by kernel_rfl) hv h hl
  refine ⟨h1, h2, choose_lt (α := SocOp) (p := fun i z => z.Ok W ∧ ∃ b o, a = some ⟨b, o, none⟩ ∧ b < W.heap.size ∧ W.rangeAt b (o + i * 16) z.vals) fun i hi => ?_⟩
  obtain ⟨vs, hlen, ⟨b, o, e, hlt, hr⟩, hf⟩ := h3 i hi
  match vs, hlen, hr, hf with
  | [c0, c1, c2, c3, c4, c5, c6, c7, c8, c9, c10, c11, c12, c13, c14, c15], _, hr, hf =>
    have g0 : FieldAt enc Try.prog W 3 c0 := hf.field Try.underlying47 0 _ rfl
    have gi : PartAt enc Try.prog W 31 [c1, c2, c3, c4] := hf.field Try.underlying47 1 _ rfl
    have g5 : FieldAt enc Try.prog W 29 c5 := hf.field Try.underlying47 2 _ rfl
    have g6 : FieldAt enc Try.prog W 3 c6 := hf.field Try.underlying47 3 _ rfl
    have g7 : FieldAt enc Try.prog W 29 c7 := hf.field Try.underlying47 4 _ rfl
    have ga : PartAt enc Try.prog W 43 [c8, c9, c10, c11, c12, c13, c14, c15] := hf.field Try.underlying47 5 _ rfl
    have g1 : FieldAt enc Try.prog W 3 c1 := gi.field Try.underlying31 0 _ rfl
    have g2 : FieldAt enc Try.prog W 3 c2 := gi.field Try.underlying31 1 _ rfl
    have g3 : FieldAt enc Try.prog W 3 c3 := gi.field Try.underlying31 2 _ rfl
    have g4 : FieldAt enc Try.prog W 3 c4 := gi.field Try.underlying31 3 _ rfl
    have g8 : FieldAt enc Try.prog W 3 c8 := ga.field Try.underlying43 0 _ rfl
    have g9 : FieldAt enc Try.prog W 3 c9 := ga.field Try.underlying43 1 _ rfl
    have g10 : FieldAt enc Try.prog W 3 c10 := ga.field Try.underlying43 2 _ rfl
    have g11 : FieldAt enc Try.prog W 29 c11 := ga.field Try.underlying43 3 _ rfl
    have g12 : FieldAt enc Try.prog W 3 c12 := ga.field Try.underlying43 4 _ rfl
    have g13 : FieldAt enc Try.prog W 37 c13 := ga.field Try.underlying43 5 _ rfl
    have g14 : FieldAt enc Try.prog W 38 c14 := ga.field Try.underlying43 6 _ rfl
    have g15 : FieldAt enc Try.prog W 3 c15 := ga.field Try.underlying43 7 _ rfl
    obtain ⟨x0, rfl, w0⟩ := g0.int Try.underlying3
    obtain ⟨x1, rfl, w1⟩ := g1.int Try.underlying3
    obtain ⟨x2, rfl, w2⟩ := g2.int Try.underlying3
    obtain ⟨x3, rfl, w3⟩ := g3.int Try.underlying3
    obtain ⟨x4, rfl, w4⟩ := g4.int Try.underlying3
    obtain ⟨x5, rfl, w5⟩ := g5.int Try.underlying29
    obtain ⟨x6, rfl, w6⟩ := g6.int Try.underlying3
    obtain ⟨x7, rfl, w7⟩ := g7.int Try.underlying29
    obtain ⟨x8, rfl, w8⟩ := g8.int Try.underlying3
    obtain ⟨x9, rfl, w9⟩ := g9.int Try.underlying3
    obtain ⟨x10, rfl, w10⟩ := g10.int Try.underlying3
    obtain ⟨x11, rfl, w11⟩ := g11.int Try.underlying29
    obtain ⟨x12, rfl, w12⟩ := g12.int Try.underlying3
    obtain ⟨a4, l4, k4, z4, rfl, q4, r4⟩ := g13.ints Try.underlying37 Try.underlying5 (by kernel_rfl) (b := 1) (by kernel_rfl) (by omega)
    obtain ⟨a5, l5, k5, z5, rfl, r5⟩ := g14.bools Try.underlying38 Try.underlying4 (by kernel_rfl) (b := 1) (by kernel_rfl) (by omega)
    obtain ⟨x15, rfl, w15⟩ := g15.int Try.underlying3
    obtain ⟨n5, rfl, b5⟩ := nat_of_u64 w5
    obtain ⟨n7, rfl, b7⟩ := nat_of_u64 w7
    obtain ⟨n11, rfl, b11⟩ := nat_of_u64 w11
    exact ⟨⟨x0, x1, x2, x3, x4, n5, x6, n7, x8, x9, x10, n11, x12, a4, l4, k4, a5, l5, k5, x15, z4, z5⟩, ⟨b5, b7, b11, fun i => wf_u8' (q4 i), r4, r5⟩, b, o, e, hlt, hr⟩
end Go.Proofs.Ytefcdbpmpnmkjaa
end
section
set_option linter.unusedVariables false
set_option linter.unusedSimpArgs false
namespace Go.Proofs.Ytefcdbpmpnmkjaa
open Go.RowKit
set_option maxRecDepth 100000
theorem find_any (n : Nat) (x : Int) : (pmaFind n x).1 = 0 ∨ ((pmaFind n x).1 = 1 ∧ 4096 ≤ x ∧ x < 8192) ∨ ((pmaFind n x).1 = 2 ∧ 33554432 ≤ x ∧ x < 33619968) ∨ ((pmaFind n x).1 = 3 ∧ 201326592 ≤ x ∧ x < 205520896) ∨ ((pmaFind n x).1 = 4 ∧ 268435456 ≤ x ∧ x < 268439552) ∨ ((pmaFind n x).1 = 5 ∧ 2147483648 ≤ x) := by
  unfold pmaFind
  repeat' split
  · rename_i h; exact .inr (.inl ⟨rfl, h⟩)
  · rename_i h; exact .inr (.inr (.inl ⟨rfl, h⟩))
  · rename_i h; exact .inr (.inr (.inr (.inl ⟨rfl, h⟩)))
  · rename_i h; exact .inr (.inr (.inr (.inr (.inl ⟨rfl, h⟩))))
  · rename_i h; exact .inr (.inr (.inr (.inr (.inr ⟨rfl, h.1⟩))))
  · exact .inl rfl
theorem err_ne {n : Nat} {x size kind : Int} (h : socErr n x size kind = 0) : (pmaFind n x).1 ≠ 0 ∧ (kind = 2 → (pmaFind n x).1 ≠ 1) := by
  have hm : pmaMay n x size kind = true := by
    unfold socErr at h
    split at h
    · split at h
      · split at h
        · assumption
        · cases h
      · cases h
    · cases h
  unfold pmaMay at hm
  simp at hm
  refine ⟨hm.1.1, fun hk => ?_⟩
  subst hk
  have := hm.2
  simp at this
  exact this
def SocS.rd (σ : SocS) (x : Nat) (size : Int) : Nat × Int × SocS :=
  if socErr σ.n x size 1 = 0 then (if (pmaFind σ.n x).1 = 2 then σ.read2 x size else if (pmaFind σ.n x).1 = 3 then σ.read3 x size else if (pmaFind σ.n x).1 = 4 then σ.read4 x size else if (pmaFind σ.n x).1 = 1 then σ.read1 x size else σ.read5 x size) else (0, socErr σ.n x size 1, σ)
def SocS.wr (σ : SocS) (x : Nat) (size : Int) (v : Nat) : Int × SocS :=
  if socErr σ.n x size 2 = 0 then (if (pmaFind σ.n x).1 = 2 then σ.write2 x size (Zx size v) else if (pmaFind σ.n x).1 = 3 then σ.write3 x size (Zx size v) else if (pmaFind σ.n x).1 = 4 then σ.write4 x size (Zx size v) else σ.write5 x size (Zx size v)) else (socErr σ.n x size 2, σ)
theorem soc_read_any {w : World} {β : SocB} {σ : SocS} {lg sn : Value} {SR : Nat → Prop} (h : SocIs w β σ lg sn SR) (x : Nat) (hx : x < 2 ^ 64) (size : Int) (hlen : σ.log.length < 1000000) :
    Calls Try.prog 12 #[.pointer (some ⟨β.s, 0, none⟩), .int .u64 x, .int .i64 size] w (ReadIs w β (σ.rd x size) (SocOwn β lg sn SR)) := by
  unfold SocS.rd
  by_cases hm : socErr σ.n x size 1 = 0
  · rw [if_pos hm]
    have hne := (err_ne hm).1
    rcases find_any σ.n x with h0 | ⟨h1, _⟩ | ⟨h2, _⟩ | ⟨h3, _⟩ | ⟨h4, _⟩ | ⟨h5, _⟩
    · exact absurd h0 hne
    · rw [if_neg (by omega), if_neg (by omega), if_neg (by omega), if_pos h1]; exact soc_read1 h x hx size hm h1
    · rw [if_pos h2]; exact soc_read2 h x hx size hm h2 hlen
    · rw [if_neg (by omega), if_pos h3]; exact soc_read3 h x hx size hm h3 hlen
    · rw [if_neg (by omega), if_neg (by omega), if_pos h4]; exact soc_read4 h x hx size hm h4 hlen
    · rw [if_neg (by omega), if_neg (by omega), if_neg (by omega), if_neg (by omega)]; exact soc_read5 h x hx size hm h5
  · rw [if_neg hm]; exact soc_read_err h x hx size hm
theorem soc_write_any {w : World} {β : SocB} {σ : SocS} {lg sn : Value} {SR : Nat → Prop} (h : SocIs w β σ lg sn SR) (x : Nat) (hx : x < 2 ^ 64) (size : Int) (v : Nat) (hv : v < 2 ^ 64) (hlen : σ.log.length < 1000000) (hsn : σ.u.sent.length < 1000000) :
    Calls Try.prog 9 #[.pointer (some ⟨β.s, 0, none⟩), .int .u64 x, .int .i64 size, .int .u64 v] w (WroteIs w β (σ.wr x size v) (SocOwn β lg sn SR)) := by
  unfold SocS.wr
  by_cases hm : socErr σ.n x size 2 = 0
  · rw [if_pos hm]
    have hne := err_ne hm
    rcases find_any σ.n x with h0 | ⟨h1, _⟩ | ⟨h2, _⟩ | ⟨h3, _⟩ | ⟨h4, _⟩ | ⟨h5, _⟩
    · exact absurd h0 hne.1
    · exact absurd h1 (hne.2 rfl)
    · rw [if_pos h2]; exact soc_write2 h x hx size v hv hm h2 hlen hsn
    · rw [if_neg (by omega), if_pos h3]; exact soc_write3 h x hx size v hv hm h3 hlen hsn
    · rw [if_neg (by omega), if_neg (by omega), if_pos h4]; exact soc_write4 h x hx size v hv hm h4 hlen hsn
    · rw [if_neg (by omega), if_neg (by omega), if_neg (by omega)]; exact soc_write5 h x hx size v hv hm h5
  · rw [if_neg hm]; exact soc_write_err h x hx size v hm
/-- what an access does to what is noted -/
structure Noted (σ σ' : SocS) (x : Nat) (size : Int) (wr : Bool) (er : Int) : Prop where
  log : (∃ d, σ'.log = σ.log ++ [⟨σ.cycle, x, size, wr, d, er != 0⟩] ∧ 33554432 ≤ x ∧ x < 2147483648) ∨ (σ'.log = σ.log ∧ (er = 0 → x < 2147483648 → x < 33554432))
  cycle : σ'.cycle = σ.cycle
  sent : σ'.u.sent.length ≤ σ.u.sent.length + 1
  n : σ'.n = σ.n
theorem sent_take (u : UartS) (off size : Int) : (u.read off size).2.2.sent = u.sent := by
  unfold UartS.read UartS.take UartS.told
  repeat' split
  all_goals rfl
theorem sent_write (u : UartS) (off size : Int) (v : Nat) : (u.write off size v).2.sent.length ≤ u.sent.length + 1 := by
  unfold UartS.write
  repeat' split
  all_goals simp
theorem noted_told {σ σ1 : SocS} {x : Nat} {size : Int} {v : Nat} {e : Int} (h1 : σ1.log = σ.log) (h2 : σ1.cycle = σ.cycle) (h3 : σ1.u.sent = σ.u.sent) (h4 : σ1.n = σ.n) (hx : 33554432 ≤ x ∧ x < 2147483648) : Noted σ (σ1.told x size v e).2.2 x size false (σ1.told x size v e).2.1 :=
  ⟨.inl ⟨if e = 0 then v else 0, by show σ1.log ++ [⟨σ1.cycle, x, size, false, if e = 0 then v else 0, er6 e != 0⟩] = _; rw [h1, h2]; rfl, hx⟩, h2, by show σ1.u.sent.length ≤ _; rw [h3]; omega, h4⟩
theorem SocS.rd_noted (σ : SocS) (x : Nat) (size : Int) : Noted σ (σ.rd x size).2.2 x size false (σ.rd x size).2.1 := by
  unfold SocS.rd
  by_cases hm : socErr σ.n x size 1 = 0
  · rw [if_pos hm]
    have hne := (err_ne hm).1
    rcases find_any σ.n x with h0 | ⟨h1, r1, r2⟩ | ⟨h2, r1, r2⟩ | ⟨h3, r1, r2⟩ | ⟨h4, r1, r2⟩ | ⟨h5, r1⟩
    · exact absurd h0 hne
    · rw [if_neg (by omega), if_neg (by omega), if_neg (by omega), if_pos h1]
      exact ⟨.inr ⟨rfl, fun _ _ => by omega⟩, rfl, Nat.le_succ _, rfl⟩
    · rw [if_pos h2]; exact noted_told rfl rfl rfl rfl (by omega)
    · rw [if_neg (by omega), if_pos h3]; exact noted_told rfl rfl rfl rfl (by omega)
    · rw [if_neg (by omega), if_neg (by omega), if_pos h4]; exact noted_told rfl rfl (sent_take _ _ _) rfl (by omega)
    · rw [if_neg (by omega), if_neg (by omega), if_neg (by omega), if_neg (by omega)]
      exact ⟨.inr ⟨rfl, fun _ h => by omega⟩, rfl, Nat.le_succ _, rfl⟩
  · rw [if_neg hm]; exact ⟨.inr ⟨rfl, fun h => absurd h hm⟩, rfl, Nat.le_succ _, rfl⟩
theorem SocS.wr_noted (σ : SocS) (x : Nat) (size : Int) (v : Nat) : Noted σ (σ.wr x size v).2 x size true (σ.wr x size v).1 := by
  unfold SocS.wr
  by_cases hm : socErr σ.n x size 2 = 0
  · rw [if_pos hm]
    have hne := err_ne hm
    rcases find_any σ.n x with h0 | ⟨h1, r1, r2⟩ | ⟨h2, r1, r2⟩ | ⟨h3, r1, r2⟩ | ⟨h4, r1, r2⟩ | ⟨h5, r1⟩
    · exact absurd h0 hne.1
    · exact absurd h1 (hne.2 rfl)
    · rw [if_pos h2]; exact ⟨.inl ⟨_, rfl, by omega, by omega⟩, rfl, Nat.le_succ _, rfl⟩
    · rw [if_neg (by omega), if_pos h3]; exact ⟨.inl ⟨_, rfl, by omega, by omega⟩, rfl, Nat.le_succ _, rfl⟩
    · rw [if_neg (by omega), if_neg (by omega), if_pos h4]; exact ⟨.inl ⟨_, rfl, by omega, by omega⟩, rfl, sent_write _ _ _ _, rfl⟩
    · rw [if_neg (by omega), if_neg (by omega), if_neg (by omega)]
      exact ⟨.inr ⟨rfl, fun _ h => by omega⟩, rfl, Nat.le_succ _, rfl⟩
  · rw [if_neg hm]; exact ⟨.inr ⟨rfl, fun h => absurd h hm⟩, rfl, Nat.le_succ _, rfl⟩
theorem SocS.tick_same (σ : SocS) (l rx : Int) : (σ.tick l rx).log = σ.log ∧ (σ.tick l rx).u.sent = σ.u.sent ∧ (σ.tick l rx).n = σ.n := by
  have h : (σ.recv rx).log = σ.log ∧ (σ.recv rx).u.sent = σ.u.sent ∧ (σ.recv rx).n = σ.n := by
    unfold SocS.recv UartS.recv
    repeat' split
    all_goals exact ⟨rfl, rfl, rfl⟩
  exact h
/-! two socs beside each other -/
theorem own_ne_ram {w : World} {β : SocB} {σ : SocS} {lg sn : Value} {SR : Nat → Prop} (h : SocIs w β σ lg sn SR) {g : Nat} (hg : SocOwn β lg sn SR g) {C : Array Value} (hC : w.heap[g]? = some (.cells C 117 (0, 0))) : False := by
  rcases hg with rfl | rfl | rfl | rfl | hg | hg | hg
  · exact type_ne hC h.at_ (by decide) rfl
  · exact type_ne hC h.c (by decide) rfl
  · exact type_ne hC h.p (by decide) rfl
  · exact type_ne hC h.u.1 (by decide) rfl
  · exact ram_ne h.r hC (by decide) hg
  · obtain ⟨C', h'⟩ := own_cells h.log hg; exact type_ne hC h' (by decide) rfl
  · obtain ⟨C', h'⟩ := own_cells h.u.2 hg; exact type_ne hC h' (by decide) rfl
def TwoK (w wp : World) (βs βt : SocB) (σs σt : SocS) (P : Nat → Prop) (wr : World) : Prop := ∃ Ss St, SocAt wr βs σs Ss ∧ SocAt wr βt σt St ∧ (∀ g, Ss g → ¬ St g) ∧ (∀ g, Ss g → w.heap.size ≤ g) ∧ (∀ g, St g → w.heap.size ≤ g) ∧ Below w.heap.size w wr ∧ (∀ g, P g → ¬ Ss g ∧ ¬ St g ∧ g < wp.heap.size) ∧ wp.heap.size ≤ wr.heap.size ∧ (∀ g, P g → wr.heap[g]? = wp.heap[g]?)
theorem TwoK.swap {w wp : World} {βs βt : SocB} {σs σt : SocS} {P : Nat → Prop} {wr : World} (h : TwoK w wp βs βt σs σt P wr) : TwoK w wp βt βs σt σs P wr := by
  obtain ⟨Ss, St, h1, h2, h3, h4, h5, h6, h7, h8, h9⟩ := h
  exact ⟨St, Ss, h2, h1, fun g a b => h3 g b a, h5, h4, h6, fun g hg => ⟨(h7 g hg).2.1, (h7 g hg).1, (h7 g hg).2.2⟩, h8, h9⟩
theorem TwoK.keeps {w wp : World} {βs βt : SocB} {σs σt : SocS} {P : Nat → Prop} {wr : World} (h : TwoK w wp βs βt σs σt P wr) : Below w.heap.size w wr := by
  obtain ⟨Ss, St, h1, h2, h3, h4, h5, h6, h7, h8, h9⟩ := h
  exact h6
theorem TwoK.below {w wp : World} {βs βt : SocB} {σs σt : SocS} {P : Nat → Prop} {wr w' : World} (h : TwoK w wp βs βt σs σt P wr) (hb : Below wr.heap.size wr w') : TwoK w wp βs βt σs σt P w' := by
  obtain ⟨Ss, St, h1, h2, h3, h4, h5, h6, h7, h8, h9⟩ := h
  exact ⟨Ss, St, h1.below hb, h2.below hb, h3, h4, h5, below_then h6 hb h6.size, h7, Nat.le_trans h8 hb.size, fun g hg => (hb.block g (by have := (h7 g hg).2.2; omega)).trans (h9 g hg)⟩
theorem SocAt.turned' {w w' : World} {β : SocB} {σ : SocS} {S T : Nat → Prop} (h : SocAt w β σ S) (ht : Turned T w w') (hr : ¬ T β.r) (hT : ∀ g, S g → ¬ T g) : SocAt w' β σ S := by
  obtain ⟨lg, sn, SR, h, rfl⟩ := h
  exact ⟨lg, sn, SR, h.turned ht hr hT, rfl⟩
theorem TwoK.left {w wp : World} {βs βt : SocB} {σs σt : SocS} {P : Nat → Prop} {wr : World} (h : TwoK w wp βs βt σs σt P wr) : ∃ lg sn SR, SocIs wr βs σs lg sn SR ∧ ∀ w' σ', SocTo wr w' βs σ' (SocOwn βs lg sn SR) → TwoK w wp βs βt σ' σt P w' := by
  obtain ⟨Ss, St, ⟨lg, sn, SR, I, rfl⟩, h2, h3, h4, h5, h6, h7, h8, h9⟩ := h
  refine ⟨lg, sn, SR, I, fun w' σ' ⟨S', k1, k2, k3⟩ => ?_⟩
  have hr : ¬ SocOwn βs lg sn SR βt.r := fun e => by
    obtain ⟨SR', hr'⟩ := h2.ram
    obtain ⟨C, hC⟩ := ram_at hr'
    exact own_ne_ram I e hC
  refine ⟨S', St, k1, h2.turned' k2 hr (fun g a b => h3 g b a), fun g a b => ?_, fun g a => ?_, h5, turned_below h6 k2 h4 h6.size, fun g hg => ⟨fun a => ?_, (h7 g hg).2.1, (h7 g hg).2.2⟩, Nat.le_trans h8 k2.size, fun g hg => (k2.block g (by have := (h7 g hg).2.2; omega) (h7 g hg).1).trans (h9 g hg)⟩
  · rcases k3 g a with e | e
    · exact h3 g e b
    · have := h2.lt b; omega
  · rcases k3 g a with e | e
    · exact h4 g e
    · exact Nat.le_trans h6.size e
  · rcases k3 g a with e | e
    · exact (h7 g hg).1 e
    · have := (h7 g hg).2.2; omega
theorem TwoK.watch {w wp : World} {βs βt : SocB} {σs σt : SocS} {P : Nat → Prop} {wr : World} (h : TwoK w wp βs βt σs σt P wr) {o : Obj} : TwoK w (wr.alloc o) βs βt σs σt (fun g => g = wr.heap.size) (wr.alloc o) := by
  have hb := (Below.refl wr.heap.size wr).alloc (Nat.le_refl _) o
  obtain ⟨Ss, St, h1, h2, h3, h4, h5, h6, h7, h8, h9⟩ := h
  refine ⟨Ss, St, h1.below hb, h2.below hb, h3, h4, h5, below_then h6 hb h6.size, fun g hg => ?_, Nat.le_refl _, fun _ _ => rfl⟩
  subst hg
  exact ⟨fun e => by have := h1.lt e; omega, fun e => by have := h2.lt e; omega, by simp⟩
theorem TwoK.forget {w wp wp' : World} {βs βt : SocB} {σs σt : SocS} {P : Nat → Prop} {wr : World} (h : TwoK w wp βs βt σs σt P wr) (hs : wp'.heap.size ≤ wr.heap.size) : TwoK w wp' βs βt σs σt (fun _ => False) wr := by
  obtain ⟨Ss, St, h1, h2, h3, h4, h5, h6, h7, h8, h9⟩ := h
  exact ⟨Ss, St, h1, h2, h3, h4, h5, h6, fun _ e => e.elim, hs, fun _ e => e.elim⟩
theorem TwoK.new {w w1 w2 : World} {βs βt : SocB} {σs σt : SocS} (h : SocHere w βs σs w1) (k : SocHere w1 βt σt w2) : TwoK w w βs βt σs σt (fun _ => False) w2 := by
  obtain ⟨Ss, h1, h2, h3⟩ := h
  obtain ⟨St, k1, k2, k3⟩ := k
  exact ⟨Ss, St, h1.below k3, k1, fun g a b => by have := h1.lt a; have := k2 g b; omega, h2, fun g hg => Nat.le_trans h3.size (k2 g hg), below_then h3 k3 h3.size, fun _ e => e.elim, Nat.le_trans h3.size k3.size, fun _ e => e.elim⟩
end Go.Proofs.Ytefcdbpmpnmkjaa
end
section
set_option linter.unusedVariables false
set_option linter.unusedSimpArgs false
namespace Go.Proofs.Ytefcdbpmpnmkjaa
open Go.RowKit
set_option maxRecDepth 100000
section
variable {w wp : World} {βs βt : SocB} {σs σt : SocS} {P : Nat → Prop} {wr : World}
theorem TwoK.read (h : TwoK w wp βs βt σs σt P wr) (x : Nat) (hx : x < 2 ^ 64) (size : Int) (hl : σs.log.length < 1000000) :
    Calls Try.prog 12 #[.pointer (some ⟨βs.s, 0, none⟩), .int .u64 x, .int .i64 size] wr fun e w' => e = .returned (.tuple #[.int .u64 ((σs.rd x size).1 : Nat), .int .i64 (σs.rd x size).2.1]) ∧ TwoK w wp βs βt (σs.rd x size).2.2 σt P w' := by
  obtain ⟨lg, sn, SR, I, k⟩ := h.left
  exact (soc_read_any I x hx size hl).mono fun e w' ⟨h1, h2⟩ => ⟨h1, k _ _ h2⟩
theorem TwoK.write (h : TwoK w wp βs βt σs σt P wr) (x : Nat) (hx : x < 2 ^ 64) (size : Int) (v : Nat) (hv : v < 2 ^ 64) (hl : σs.log.length < 1000000) (hs : σs.u.sent.length < 1000000) :
    Calls Try.prog 9 #[.pointer (some ⟨βs.s, 0, none⟩), .int .u64 x, .int .i64 size, .int .u64 v] wr fun e w' => e = .returned (.int .i64 (σs.wr x size v).1) ∧ TwoK w wp βs βt (σs.wr x size v).2 σt P w' := by
  obtain ⟨lg, sn, SR, I, k⟩ := h.left
  exact (soc_write_any I x hx size v hv hl hs).mono fun e w' ⟨h1, h2⟩ => ⟨h1, k _ _ h2⟩
theorem TwoK.tick (h : TwoK w wp βs βt σs σt P wr) (l rx q2 q3 : Int) :
    Calls Try.prog 10 #[.pointer (some ⟨βs.s, 0, none⟩), .agg #[.int .i64 l, .int .i64 rx, .int .i64 q2, .int .i64 q3]] wr fun e w' => e = .returned (.tuple #[]) ∧ TwoK w wp βs βt (σs.tick l rx) σt P w' := by
  obtain ⟨lg, sn, SR, I, k⟩ := h.left
  exact (soc_tick ⟨lg, sn, SR, I, rfl⟩ l rx q2 q3).mono fun e w' ⟨h1, h2⟩ => ⟨h1, k _ _ h2⟩
theorem TwoK.log (h : TwoK w wp βs βt σs σt P wr) (hl : σs.log.length < 1000000) : Calls Try.prog 14 #[.pointer (some ⟨βs.s, 0, none⟩)] wr (LogIs wr σs.log) := by
  obtain ⟨lg, sn, SR, I, k⟩ := h.left
  exact soc_log I hl
theorem TwoK.cycle (h : TwoK w wp βs βt σs σt P wr) : Calls Try.prog 15 #[.pointer (some ⟨βs.s, 0, none⟩)] wr fun e w' => e = .returned (.int .u64 σs.cycle) ∧ wr = w' := by
  obtain ⟨lg, sn, SR, I, k⟩ := h.left
  exact soc_cycle I
theorem TwoK.lines (h : TwoK w wp βs βt σs σt P wr) : Calls Try.prog 11 #[.pointer (some ⟨βs.s, 0, none⟩)] wr fun e w' => e = .returned (.int .u64 (σs.lns : Nat)) ∧ Below wr.heap.size wr w' := by
  obtain ⟨lg, sn, SR, I, k⟩ := h.left
  refine (soc_lines I).mono fun e w' ⟨h1, n, h2⟩ => ⟨h1, ?_⟩
  subst h2
  exact below_drewN (Below.refl _ wr) n
theorem TwoK.devices (h : TwoK w wp βs βt σs σt P wr) (hs : σs.u.sent.length < 1000000) : Calls Try.prog 17 #[.pointer (some ⟨βs.s, 0, none⟩)] wr (DevsIs wr σs) := by
  obtain ⟨lg, sn, SR, I, k⟩ := h.left
  exact soc_devices I hs
theorem TwoK.drew (h : TwoK w wp βs βt σs σt P wr) : TwoK w wp βs βt σs σt P wr.drew := h.below (Below.refl _ _).drew
end
/-- the state of devices, its rows elsewhere -/
def Dev.far (d : Dev) (ra : Option Addr) (rc : Nat) (ta : Option Addr) (tc : Nat) : Dev := { d with rxa := ra, rxc := rc, txa := ta, txc := tc }
attribute [local go_sem ↓] ld_dev  ld_plc st_dev  st_plc
attribute [local go_sem] rl_dev  rl_plc rs_dev  rs_plc Dev.size_cells Dev.st_ok Dev.c0 Dev.c1 Dev.c2 Dev.c3 Dev.c4 Dev.c5 Dev.c6 Dev.c7 Dev.c8 Dev.c9 Dev.c10 Dev.c11 Dev.c12 Dev.c13 Dev.c14 Dev.c15 Dev.c16 Dev.c17 Dev.c18 Dev.c19 Dev.c20 Dev.c21 Dev.set_pend Dev.set_cla row_alloc row_drew
set_option maxHeartbeats 4000000 in
theorem same_devices2 (d : Dev) (ra : Option Addr) (rc : Nat) (ta : Option Addr) (tc : Nat) (w : World) (lr lt : List Int) (hr : IsB w d.rxa d.rxl lr) (ht : IsB w d.txa d.txl lt) (hr2 : IsB w ra d.rxl lr) (ht2 : IsB w ta d.txl lt) :
    Calls Try.prog 16 #[.agg d.cells, .agg (d.far ra rc ta tc).cells] w fun e w' => e = .returned (.bool true) ∧ Below w.heap.size w w' := by
  have hw : ∀ a b, Below w.heap.size w ((w.alloc a).alloc b) := fun a b => base2 w a b
  have hr' : Hid (∀ a b, IsB ((w.alloc a).alloc b) d.rxa d.rxl lr) := fun a b => isB_below hr (hw a b)
  have ht' : Hid (∀ a b, IsB ((w.alloc a).alloc b) d.txa d.txl lt) := fun a b => isB_below ht (hw a b)
  have hr2' : Hid (∀ a b, IsB ((w.alloc a).alloc b) ra d.rxl lr) := fun a b => isB_below hr2 (hw a b)
  have ht2' : Hid (∀ a b, IsB ((w.alloc a).alloc b) ta d.txl lt) := fun a b => isB_below ht2 (hw a b)
  clear hr ht hr2 ht2 hw
  have e8 := eq8 d.pr
  have e2 := eq2 d.en
  have e3 := eq2 d.th
  obtain ⟨d2, hd⟩ : ∃ d2, d2 = d.far ra rc ta tc := ⟨_, rfl⟩
  rw [← hd]
  have f0 : d2.msip = d.msip := by rw [hd]; rfl
  have f1 : d2.mtime = d.mtime := by rw [hd]; rfl
  have f2 : d2.cmp = d.cmp := by rw [hd]; rfl
  have f3 : d2.pr = d.pr := by rw [hd]; rfl
  have f4 : d2.pend = d.pend := by rw [hd]; rfl
  have f5 : d2.cla = d.cla := by rw [hd]; rfl
  have f6 : d2.en = d.en := by rw [hd]; rfl
  have f7 : d2.th = d.th := by rw [hd]; rfl
  have f8 : d2.lines = d.lines := by rw [hd]; rfl
  have f9 : d2.rxa = ra := by rw [hd]; rfl
  have f10 : d2.rxl = d.rxl := by rw [hd]; rfl
  have f11 : d2.rxc = rc := by rw [hd]; rfl
  have f12 : d2.txa = ta := by rw [hd]; rfl
  have f13 : d2.txl = d.txl := by rw [hd]; rfl
  have f14 : d2.txc = tc := by rw [hd]; rfl
  have f15 : d2.uen = d.uen := by rw [hd]; rfl
  have f16 : d2.lost = d.lost := by rw [hd]; rfl
  clear hd
  go_enter Try.func16, Try.ntmps16
  go_wp2_with fail
  refine (same_bytes _ _ _ _ _ _ lr lr _ (hr'.out _ _) (hr2'.out _ _)).mono ?_
  rintro e w5 ⟨rfl, rfl⟩
  rw [show eqB lr lr = true by simp [eqB]]
  go_wp2_with fail
  refine (same_bytes _ _ _ _ _ _ lt lt _ (ht'.out _ _) (ht2'.out _ _)).mono ?_
  rintro e w5 ⟨rfl, rfl⟩
  rw [show eqB lt lt = true by simp [eqB]]
  go_wp2
  go_ret
  exact ⟨rfl, base2 w _ _⟩
end Go.Proofs.Ytefcdbpmpnmkjaa
end
