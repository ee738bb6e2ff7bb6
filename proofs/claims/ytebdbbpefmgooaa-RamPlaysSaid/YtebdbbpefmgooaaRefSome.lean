/- The reference memory: Some. No condition. -/
import Derived.Test.YtebdbbpefmgooaaRefM
import Derived.Test.YtebdbbpefmgooaaArgsB
import Derived.Deep.AppendLies
import Derived.Deep.RegionLaw
import Derived.OwnWalk
import Derived.StillTailTactics
import Derived.BigRegion
import Derived.Deep.RegionWith
import Derived.Deep.RegionHeld3
import Derived.Deep.QuietTactic
import Derived.BigQuiet
import Derived.Deep.LoopGhost
import Derived.Deep.DeepCutAuto
import Derived.Deep.DeepFit
import Derived.Deep.DeepMust
import Derived.Handy
set_option linter.unusedVariables false
set_option linter.unusedSimpArgs false
namespace Go.Proofs.Ytebdbbpefmgooaa
open Go.RowKit

theorem A_cell : (Try.prog.info? 132).map (fun i => (i.zero, i.size, i.bytes)) = some (some (.agg #[.int .u64 0, .int .u8 0]), 2, 16) := by kernel_rfl
/-- what is read at y behind j of the bytes l written from x on, where st says so -/
def putR (f : Int → Int) (x : Int) (l : Nat → Int) (st : Nat → Bool) : Nat → Int → Int
  | 0 => f
  | j + 1 => fun y => if st j = true ∧ x + j = y then l j else putR f x l st j y
/-- the reference's memory has turned to one that reads so -/
def RefTo (w w' : World) (B wb n : Nat) (v : Value) (f : Int → Int) (most : Nat) : Prop :=
  ∃ v' c m, RefRam w' B wb n v' c m ∧ (∀ y, lkTo c y m = f y) ∧ m ≤ most ∧ Turned (fun g => g = wb ∨ v.ownBlock = some g) w w' ∧ ∀ g, v'.ownBlock = some g → v.ownBlock = some g ∨ w.heap.size ≤ g
theorem lkTo_congr {c d : Nat → Int × Int} (y : Int) : ∀ m, (∀ i, i < m → c i = d i) → lkTo c y m = lkTo d y m
  | 0, _ => rfl
  | m + 1, h => by unfold lkTo; rw [h m (by omega), lkTo_congr y m (fun i hi => h i (by omega))]
theorem refTo_push {w wr w2 : World} {B wb n : Nat} {v v' : Value} {c' : Nat → Int × Int} {m' most : Nat} {f : Int → Int} {o : Obj} {gg cap : Nat} {p q : Int} (hram : RefRam wr B wb n v' c' m') (hlk : ∀ y, lkTo c' y m' = f y) (hmm : m' ≤ most) (ht : Turned (fun g => g = wb ∨ v.ownBlock = some g) w wr) (how : ∀ g, v'.ownBlock = some g → v.ownBlock = some g ∨ w.heap.size ≤ g)
    (ho : w2.ownsRow B 132 2 (.slice (some ⟨gg, 0, none⟩) (m' + 1) cap) (m' + 1) (flat c' m' ++ [.int .u64 p, .int .u8 q])) (hg : (wr.alloc o).drew.grownBy w2 v'.ownBlock) (hq : 0 ≤ q ∧ q ≤ 255) (hvb : v'.ownBlock ≠ some wb) (hat : v'.ownBlock = some gg ∨ gg = wr.heap.size + 1) (hmost : (most : Int) + 1 ≤ 100000000) :
    RefTo w (w2.setCell ⟨wb, 1, none⟩ (.slice (some ⟨gg, 0, none⟩) (m' + 1) cap)) B wb n v (fun y => if p = y then q else f y) (most + 1) := by
  have hwbl : wb < wr.heap.size := blk_lt hram.at_
  have hgw : gg ≠ wb := by
    rcases hat with h | h
    · intro e; exact hvb (by rw [h, e])
    · omega
  have hat2 : w2.heap[wb]? = some (.cells #[.int .i64 n, v'] 97 (0, 0)) := by
    rw [hg.block wb (by simp; omega) (fun e => hvb e.symm)]
    exact (blk_alloc_old wr o wb hwbl).trans hram.at_
  refine ⟨_, fun i => if i = m' then (p, q) else c' i, m' + 1, ⟨blk_set hat2 1 _, ?_, hram.ge, fun i hi => ?_, by omega⟩, fun y => ?_, by omega, ?_, ?_⟩
  · have e : flat (fun i => if i = m' then (p, q) else c' i) (m' + 1) = flat c' m' ++ [.int .u64 p, .int .u8 q] := by
      rw [flat_succ, flat_congr m' (d := c') (fun i hi => by rw [if_neg (by omega)])]
      simp
    rw [e]
    exact ho.kept (row := some wb) ⟨rfl, rfl, rfl, by simp [World.setCell], fun k _ hk => Below.heap_setCell _ _ _ _ (by intro h; exact hk (by rw [h]))⟩ (by simp [Value.ownBlock]; exact hgw)
  · show 0 ≤ (if i = m' then (p, q) else c' i).2 ∧ _
    split
    · exact hq
    · exact hram.bd i (by omega)
  · show (if (if m' = m' then (p, q) else c' m').1 = y then (if m' = m' then (p, q) else c' m').2 else lkTo (fun i => if i = m' then (p, q) else c' i) y m') = _
    rw [if_pos rfl]
    show (if p = y then q else lkTo (fun i => if i = m' then (p, q) else c' i) y m') = (if p = y then q else f y)
    rw [← hlk y, lkTo_congr y m' (d := c') (fun i hi => by rw [if_neg (by omega)])]
  · have h1 : Turned (fun g => v'.ownBlock = some g) wr w2 := by
      have h2 : Turned (fun g => v'.ownBlock = some g) wr (wr.alloc o).drew := ((Turned.refl _ wr).alloc o).drew
      exact h2.trans (S' := fun g => v'.ownBlock = some g) ⟨hg.os, hg.tape, hg.output, hg.size, fun k hk hn => hg.block k hk (fun e => hn e.symm)⟩ (fun g h => .inl h)
    exact (ht.trans h1 (fun g h => (how g h).imp .inr id)).set (.inl (.inl rfl)) _ _
  · intro g hgo
    simp [Value.ownBlock] at hgo
    subst hgo
    rcases hat with h | h
    · exact how gg h
    · have := ht.size; right; omega
set_option maxRecDepth 100000 in
set_option maxHeartbeats 8000000 in
theorem refm_some_all {w : World} {B wb n : Nat} {v : Value} {c : Nat → Int × Int} {m : Nat} (h : RefRam w B wb n v c m) (n4 : (4 : Int) ≤ n) (n256 : (n : Int) ≤ 256) (x : Int) (x0 : 0 ≤ x) (x1 : x < 18446744073709551616) (a a2 : Option Addr) (k cc m2 c2 : Nat) (hk : (k : Int) ≤ 200)
    (l : Nat → Int) (hl : IsRow w a k (fun i => .int .u8 (l i))) (hlb : ∀ i, 0 ≤ l i ∧ l i ≤ 255) (al : 0 < k → Apart (fun g => g = wb ∨ v.ownBlock = some g) a) (hmx : (m : Int) + k ≤ 100000000) (ha : ramAll n x k = true) (hB : B ≤ w.heap.size) (hvw : v.ownBlock ≠ some wb) :
    Calls Try.prog 68 #[.pointer (some ⟨wb, 0, none⟩), .int .u64 x, .slice a k cc, .slice a2 m2 c2, .bool true] w fun e w' => e = .returned (.int .i64 0) ∧ RefTo w w' B wb n v (putR (fun y => lkTo c y m) x l (fun _ => true) k) (m + k) := by
  have HIN := Lib.hid (refm_in h n4 n256 x x0 x1 k (by omega) (by omega))
  rw [ha] at HIN
  have hx : k = 0 ∨ (2147483648 ≤ x ∧ x - 2147483648 + k ≤ n * 4096) := by
    simp only [ramAll, isRam, Bool.or_eq_true, Bool.and_eq_true, decide_eq_true_eq] at ha
    omega
  have HX := Lib.hid hx
  have HL := Lib.hid hl
  have HAL := Lib.hid al
  have HLB := Lib.hid hlb
  have HMX := Lib.hid hmx
  have HBB := Lib.hid hB
  have HVW := Lib.hid hvw
  have H0 : Hid (RefTo w w B wb n v (putR (fun y => lkTo c y m) x l (fun _ => true) 0) (m + 0)) := ⟨v, c, m, h, fun _ => rfl, Nat.le_refl _, Turned.refl _ _, fun _ => .inl⟩
  have HWB := Lib.hid (blk_lt h.at_)
  obtain ⟨inf, hinf, hzz⟩ := Option.map_eq_some_iff.1 A_cell
  simp only [Prod.mk.injEq] at hzz
  have HI := Lib.hid (And.intro hinf hzz)
  clear hinf hzz h ha hx hl al hlb hmx hB hvw
  go_enter Try.func68, Try.ntmps68
  go_wp2_with fail
  refine HIN.out.mono ?_
  rintro e w1 ⟨rfl, rfl⟩
  clear HIN
  go_wp2_with fail
  go_loopw [11] (fun i wr => ∃ j : Nat, (j : Int) ≤ k ∧ i = .int .i64 j ∧ RefTo w wr B wb n v (putR (fun y => lkTo c y m) x l (fun _ => true) j) (m + j)) (fun i _ => k - (intOf i).toNat)
  case atStart => exact ⟨0, by omega, rfl, H0.out⟩
  case round =>
    clear H0
    obtain ⟨j, hj, rfl, hr⟩ := hrel
    have HR := Lib.hid hr
    clear hr
    by_cases hlt : (j : Int) < k
    · clear hj
      obtain ⟨v', c', m', hram, hlk, hmm, ht, hown⟩ := HR.out
      obtain ⟨bb, oo, rfl, hbl, hcl⟩ := (isRow_turned HL.out ht (HAL.out (by omega))) (by omega)
      have cb : wr.cell? ⟨bb, oo + j, none⟩ = some (.int .u8 (l j)) := hcl j (by omega)
      have cw : wr.cell? ⟨wb, 1, none⟩ = some v' := blk_cell hram.at_ 1
      have HRAM := Lib.hid hram
      have HLK := Lib.hid hlk
      have HMM := Lib.hid hmm
      have HT := Lib.hid ht
      have HOW := Lib.hid hown
      have hxx := HX.out
      have g0 : 2147483648 ≤ x := by omega
      have g1 : x + j < 2148532225 := by omega
      have hw1 : IntKind.u64.wrap (j : Int) = j := by rw [IntKind.wrap_u64]; omega
      have hw2 : IntKind.u64.wrap (x + j) = x + j := by rw [IntKind.wrap_u64]; omega
      have fw : wr.frozen? ⟨wb, 1, none⟩ = false := blk_frozen hram.at_ 1
      have hwbl : wb < wr.heap.size := blk_lt hram.at_
      have hvb : Hid (v'.ownBlock ≠ some wb) := by
        intro e
        rcases HOW.out wb e with h | h
        · exact HVW.out h
        · have := HWB.out; omega
      have CW2 : ∀ (o : Obj) w2, (wr.alloc o).drew.grownBy w2 v'.ownBlock → w2.cell? ⟨wb, 1, none⟩ = some v' := fun o w2 hg => by
        have := hg.block wb (by simp; omega) (fun e => hvb.out e.symm)
        unfold World.cell?
        simp only [this]
        exact (World.cell?_alloc_lt wr o ⟨wb, 1, none⟩ hwbl).trans (blk_cell hram.at_ 1)
      have FW2 : ∀ (o : Obj) w2, (wr.alloc o).drew.grownBy w2 v'.ownBlock → w2.frozen? ⟨wb, 1, none⟩ = false := fun o w2 hg => by
        have := hg.block wb (by simp; omega) (fun e => hvb.out e.symm)
        have h2 : (wr.alloc o).drew.heap[wb]? = wr.heap[wb]? := blk_alloc_old wr o wb hwbl
        exact blk_frozen (this.trans (h2.trans hram.at_)) 1
      clear hxx hram hlk hmm ht hown hcl hbl
      have hB63 : Hid (m' + 1 ≤ maxLen ∧ (m' + 1) * 16 ≤ 140737488355328) := by have := HMX.out; have := HMM.out; show _ ∧ _; unfold maxLen; omega
      have hBase : Hid (B ≤ wr.heap.size + 1) := by have := HBB.out; have := HT.out.size; show _ ≤ _; omega
      have e1 : IntKind.u64.wrap (x + j) = x + j := hw2
      go_wp2_with fail
      go_region_law ((refine step_append_lies _ (by rfl) _ _ _ (by rfl) B 132 inf _ 2 16 Try.underlying95 HI.out.1 HI.out.2.1 HI.out.2.2.1 HI.out.2.2.2 rfl (by omega) v' m' (flat c' m') (by rfl) ((HRAM.out.own.alloc _).drew) ⟨wr.heap.size, 0, none⟩ 1 1 [.int .u64 (x + j), .int .u8 (l j)] (by rfl) (by rfl) (World.news_of_block (cs := #[.int .u64 (x + j), .int .u8 (l j)]) (t := 132) (fr := (0, 0)) (heap_alloc_new wr _)) (by simp [Value.oneCell']) (by omega) hB63.out.1 hB63.out.2 (by simp; exact hBase.out) (wr.heap.size + 1) (by simp) ?_; intro gg cap w2 hown2 hgrow hat hlt; have HO2 := Lib.hid hown2; have HG2 := Lib.hid hgrow; have cw2 : w2.cell? ⟨wb, 1, none⟩ = some v' := CW2 _ _ hgrow; have fw2 : w2.frozen? ⟨wb, 1, none⟩ = false := FW2 _ _ hgrow; have HAT := Lib.hid hat; clear hown2 hgrow hat hlt))
      all_goals
        have HPUSH := Lib.hid (refTo_push HRAM.out HLK.out HMM.out HT.out HOW.out HO2.out HG2.out (HLB.out j) hvb.out HAT.out (by have := HMX.out; omega))
        clear cw2 fw2 HO2 HG2 HAT
        go_wp2_with fail
        refine ⟨⟨j + 1, by omega, by rw [Int.natCast_succ], ?_⟩, by simp [intOf]; omega⟩
        obtain ⟨v3, c3, m3, q1, q2, q3, q4, q5⟩ := HPUSH.out
        exact ⟨v3, c3, m3, q1, fun y => by rw [q2 y]; simp [putR], q3, q4, q5⟩
    · obtain rfl : j = k := by omega
      go_wp2_with fail
      go_ret
      exact ⟨rfl, HR.out⟩
set_option maxRecDepth 100000 in
set_option maxHeartbeats 8000000 in
theorem refm_some_st {w : World} {B wb n : Nat} {v : Value} {c : Nat → Int × Int} {m : Nat} (h : RefRam w B wb n v c m) (n4 : (4 : Int) ≤ n) (n256 : (n : Int) ≤ 256) (x : Int) (x0 : 0 ≤ x) (x1 : x < 18446744073709551616) (a a2 : Option Addr) (k cc m2 c2 : Nat) (hk : (k : Int) ≤ 200)
    (l : Nat → Int) (hl : IsRow w a k (fun i => .int .u8 (l i))) (hlb : ∀ i, 0 ≤ l i ∧ l i ≤ 255) (al : 0 < k → Apart (fun g => g = wb ∨ v.ownBlock = some g) a) (hmx : (m : Int) + k ≤ 100000000) (ha : ramAll n x k = true) (z : Nat → Bool) (hz : IsRow w a2 m2 (fun i => .bool (z i))) (az : 0 < m2 → Apart (fun g => g = wb ∨ v.ownBlock = some g) a2) (hm2 : (m2 : Int) ≤ 9223372036854775807) (hB : B ≤ w.heap.size) (hvw : v.ownBlock ≠ some wb) :
    Calls Try.prog 68 #[.pointer (some ⟨wb, 0, none⟩), .int .u64 x, .slice a k cc, .slice a2 m2 c2, .bool false] w fun e w' => e = .returned (.int .i64 0) ∧ RefTo w w' B wb n v (putR (fun y => lkTo c y m) x l (stAt m2 z) k) (m + k) := by
  have HIN := Lib.hid (refm_in h n4 n256 x x0 x1 k (by omega) (by omega))
  rw [ha] at HIN
  have hx : k = 0 ∨ (2147483648 ≤ x ∧ x - 2147483648 + k ≤ n * 4096) := by
    simp only [ramAll, isRam, Bool.or_eq_true, Bool.and_eq_true, decide_eq_true_eq] at ha
    omega
  have HX := Lib.hid hx
  have HL := Lib.hid hl
  have HZ := Lib.hid hz
  have HAZ := Lib.hid az
  have HAL := Lib.hid al
  have HLB := Lib.hid hlb
  have HMX := Lib.hid hmx
  have HBB := Lib.hid hB
  have HVW := Lib.hid hvw
  have H0 : Hid (RefTo w w B wb n v (putR (fun y => lkTo c y m) x l (stAt m2 z) 0) (m + 0)) := ⟨v, c, m, h, fun _ => rfl, Nat.le_refl _, Turned.refl _ _, fun _ => .inl⟩
  have HWB := Lib.hid (blk_lt h.at_)
  obtain ⟨inf, hinf, hzz⟩ := Option.map_eq_some_iff.1 A_cell
  simp only [Prod.mk.injEq] at hzz
  have HI := Lib.hid (And.intro hinf hzz)
  clear hinf hzz hz az h ha hx hl al hlb hmx hB hvw
  go_enter Try.func68, Try.ntmps68
  go_wp2_with fail
  refine HIN.out.mono ?_
  rintro e w1 ⟨rfl, rfl⟩
  clear HIN
  go_wp2_with fail
  go_loopw [11] (fun i wr => ∃ j : Nat, (j : Int) ≤ k ∧ i = .int .i64 j ∧ RefTo w wr B wb n v (putR (fun y => lkTo c y m) x l (stAt m2 z) j) (m + j)) (fun i _ => k - (intOf i).toNat)
  case atStart => exact ⟨0, by omega, rfl, H0.out⟩
  case round =>
    clear H0
    obtain ⟨j, hj, rfl, hr⟩ := hrel
    have HR := Lib.hid hr
    clear hr
    by_cases hlt : (j : Int) < k
    · clear hj
      obtain ⟨v', c', m', hram, hlk, hmm, ht, hown⟩ := HR.out
      obtain ⟨bb, oo, rfl, hbl, hcl⟩ := (isRow_turned HL.out ht (HAL.out (by omega))) (by omega)
      have cb : wr.cell? ⟨bb, oo + j, none⟩ = some (.int .u8 (l j)) := hcl j (by omega)
      have cw : wr.cell? ⟨wb, 1, none⟩ = some v' := blk_cell hram.at_ 1
      have HRAM := Lib.hid hram
      have HLK := Lib.hid hlk
      have HMM := Lib.hid hmm
      have HT := Lib.hid ht
      have HOW := Lib.hid hown
      have hxx := HX.out
      have g0 : 2147483648 ≤ x := by omega
      have g1 : x + j < 2148532225 := by omega
      have hw1 : IntKind.u64.wrap (j : Int) = j := by rw [IntKind.wrap_u64]; omega
      have hw2 : IntKind.u64.wrap (x + j) = x + j := by rw [IntKind.wrap_u64]; omega
      have fw : wr.frozen? ⟨wb, 1, none⟩ = false := blk_frozen hram.at_ 1
      have hwbl : wb < wr.heap.size := blk_lt hram.at_
      have hvb : Hid (v'.ownBlock ≠ some wb) := by
        intro e
        rcases HOW.out wb e with h | h
        · exact HVW.out h
        · have := HWB.out; omega
      have CW2 : ∀ (o : Obj) w2, (wr.alloc o).drew.grownBy w2 v'.ownBlock → w2.cell? ⟨wb, 1, none⟩ = some v' := fun o w2 hg => by
        have := hg.block wb (by simp; omega) (fun e => hvb.out e.symm)
        unfold World.cell?
        simp only [this]
        exact (World.cell?_alloc_lt wr o ⟨wb, 1, none⟩ hwbl).trans (blk_cell hram.at_ 1)
      have FW2 : ∀ (o : Obj) w2, (wr.alloc o).drew.grownBy w2 v'.ownBlock → w2.frozen? ⟨wb, 1, none⟩ = false := fun o w2 hg => by
        have := hg.block wb (by simp; omega) (fun e => hvb.out e.symm)
        have h2 : (wr.alloc o).drew.heap[wb]? = wr.heap[wb]? := blk_alloc_old wr o wb hwbl
        exact blk_frozen (this.trans (h2.trans hram.at_)) 1
      clear hxx hram hlk hmm ht hown hcl hbl
      have hB63 : Hid (m' + 1 ≤ maxLen ∧ (m' + 1) * 16 ≤ 140737488355328) := by have := HMX.out; have := HMM.out; show _ ∧ _; unfold maxLen; omega
      have hBase : Hid (B ≤ wr.heap.size + 1) := by have := HBB.out; have := HT.out.size; show _ ≤ _; omega
      have e1 : IntKind.u64.wrap (x + j) = x + j := hw2
      by_cases hj2 : (j : Int) < m2
      · obtain ⟨b2, o2, rfl, _, hc2⟩ := (isRow_turned HZ.out HT.out (HAZ.out (by omega))) (by omega)
        have cz : wr.cell? ⟨b2, o2 + j, none⟩ = some (.bool (z j)) := hc2 j (by omega)
        clear hc2
        cases hzj : z j with
        | true =>
          have HST := Lib.hid (show stAt m2 z j = true by unfold stAt; simp [hzj]; omega)
          rw [hzj] at cz
          clear hzj
          go_wp2_with fail
          go_region_law ((refine step_append_lies _ (by rfl) _ _ _ (by rfl) B 132 inf _ 2 16 Try.underlying95 HI.out.1 HI.out.2.1 HI.out.2.2.1 HI.out.2.2.2 rfl (by omega) v' m' (flat c' m') (by rfl) ((HRAM.out.own.alloc _).drew) ⟨wr.heap.size, 0, none⟩ 1 1 [.int .u64 (x + j), .int .u8 (l j)] (by rfl) (by rfl) (World.news_of_block (cs := #[.int .u64 (x + j), .int .u8 (l j)]) (t := 132) (fr := (0, 0)) (heap_alloc_new wr _)) (by simp [Value.oneCell']) (by omega) hB63.out.1 hB63.out.2 (by simp; exact hBase.out) (wr.heap.size + 1) (by simp) ?_; intro gg cap w2 hown2 hgrow hat hlt; have HO2 := Lib.hid hown2; have HG2 := Lib.hid hgrow; have cw2 : w2.cell? ⟨wb, 1, none⟩ = some v' := CW2 _ _ hgrow; have fw2 : w2.frozen? ⟨wb, 1, none⟩ = false := FW2 _ _ hgrow; have HAT := Lib.hid hat; clear hown2 hgrow hat hlt))
          all_goals
            have HPUSH := Lib.hid (refTo_push HRAM.out HLK.out HMM.out HT.out HOW.out HO2.out HG2.out (HLB.out j) hvb.out HAT.out (by have := HMX.out; omega))
            clear cw2 fw2 HO2 HG2 HAT
            go_wp2_with fail
            refine ⟨⟨j + 1, by omega, by rw [Int.natCast_succ], ?_⟩, by simp [intOf]; omega⟩
            obtain ⟨v3, c3, m3, q1, q2, q3, q4, q5⟩ := HPUSH.out
            exact ⟨v3, c3, m3, q1, fun y => by rw [q2 y]; simp [putR, HST.out], q3, q4, q5⟩
        | false =>
          have HST := Lib.hid (show stAt m2 z j = false by unfold stAt; simp [hzj])
          rw [hzj] at cz
          clear hzj
          go_wp2_with fail
          refine ⟨⟨j + 1, by omega, by rw [Int.natCast_succ], ?_⟩, by simp [intOf]; omega⟩
          obtain ⟨v3, c3, m3, q1, q2, q3, q4, q5⟩ := HR.out
          exact ⟨v3, c3, m3, q1, fun y => by rw [q2 y]; simp [putR, HST.out], by omega, q4, q5⟩
      · have HST := Lib.hid (show stAt m2 z j = false by unfold stAt; simp; omega)
        go_wp2_with fail
        refine ⟨⟨j + 1, by omega, by rw [Int.natCast_succ], ?_⟩, by simp [intOf]; omega⟩
        obtain ⟨v3, c3, m3, q1, q2, q3, q4, q5⟩ := HR.out
        exact ⟨v3, c3, m3, q1, fun y => by rw [q2 y]; simp [putR, HST.out], by omega, q4, q5⟩
    · obtain rfl : j = k := by omega
      go_wp2_with fail
      go_ret
      exact ⟨rfl, HR.out⟩
end Go.Proofs.Ytebdbbpefmgooaa
