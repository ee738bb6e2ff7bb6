/- Some ways of a run hold. No condition. Some ways of a run hold. No condition. All ways of a run hold. No condition. Accesses of sizes that are none: the document's machine answers as the program's. No condition. An access: the document's machine answers as the program's, whatever is asked. No condition. The pair of machines that a law holds, the program's and the document's, each with its memory: what stays of them; an access of the one, of the other. No condition. The pair that is made: both machines over the same; a word put into the program's. No condition. Rules for whole structs in one step. No condition. Contracts of Ram.Fork: a copy of every page. No condition. A machine's copy of its memory. No condition. A hart held against itself, a record held against itself: alike. No condition. Contracts of the functions of the ROM and of its law: what each call answers and leaves. No condition. The pair's alike: both have the same hart and the same memory. No condition. A slice of structs of one-cell fields that came in: its cells, each field's own reading, and how great what lies behind it may be. No condition. Bytes and bools that came in, as the walks take them. No condition. A struct that came in by value, with structs and arrays in it: its cells as numbers. No condition. A slice of structs that came in as an argument: the numbers of each. No condition. -/
import Derived.Test.YtkogjjeoihnjpaaGreatPack25
import Derived.KernelRfl
import Derived.Test.YtkogjjeoihnjpaaGreatPack14
import Derived.Test.YtkogjjeoihnjpaaGreatPack13
import Derived.StillTailTactics
import Derived.BigRegion
import Derived.Deep.RegionWith
import Derived.Deep.RegionHeld3
import Derived.Deep.QuietTactic
import Derived.BigQuiet
import Derived.Deep.LoopGhost
import Derived.Deep.DeepCutAuto
import Derived.Deep.DeepFit
import Derived.Deep.DeepMust
import Derived.Handy
import Derived.Deep.MidRow
import Derived.Test.YtkogjjeoihnjpaaGreatPack12
import Derived.Deep.Slices
import Derived.Deep.Fields
import Derived.Test.YtkogjjeoihnjpaaGreatPack8
import Derived.OpenShut
section
set_option linter.unusedVariables false
namespace Go.Proofs.YtkogjjeoihnjpaaGreat.Sx
open Go Go.RowKit
set_option maxRecDepth 100000
theorem racc_same8_tf : (T.go [true, false] (accT sz8)).every (raccP sz8) = true := by kernel_rfl
end Go.Proofs.YtkogjjeoihnjpaaGreat.Sx
end
section
set_option linter.unusedVariables false
namespace Go.Proofs.YtkogjjeoihnjpaaGreat.Sx
open Go Go.RowKit
set_option maxRecDepth 100000
theorem racc_same8_tt : (T.go [true, true] (accT sz8)).every (raccP sz8) = true := by kernel_rfl
theorem racc_same8_f : (T.go [false] (accT sz8)).every (raccP sz8) = true := by kernel_rfl
end Go.Proofs.YtkogjjeoihnjpaaGreat.Sx
end
section
set_option linter.unusedVariables false
namespace Go.Proofs.YtkogjjeoihnjpaaGreat.Sx
open Go Go.RowKit
set_option maxRecDepth 100000
theorem racc_same8 : ((accT sz8)).every (raccP sz8) = true := T.go_nil (T.go_twoE [] rfl rfl (T.go_twoE [true] rfl rfl racc_same8_tt racc_same8_tf) racc_same8_f)
end Go.Proofs.YtkogjjeoihnjpaaGreat.Sx
end
section
set_option linter.unusedVariables false
namespace Go.Proofs.YtkogjjeoihnjpaaGreat.Sx
open Go Go.RowKit
set_option maxRecDepth 100000
theorem racc_sameA : (accT szA).every (raccP szA) = true := by kernel_rfl
theorem racc_sameB : (accT szB).every (raccP szB) = true := by kernel_rfl
theorem racc_sameC : (accT szC).every (raccP szC) = true := by kernel_rfl
theorem racc_sameD : (accT szD).every (raccP szD) = true := by kernel_rfl
end Go.Proofs.YtkogjjeoihnjpaaGreat.Sx
end
section
set_option linter.unusedVariables false
set_option linter.unusedSimpArgs false
namespace Go.Proofs.YtkogjjeoihnjpaaGreat.Sx
open Go Go.RowKit
set_option maxRecDepth 100000
theorem racc_tells : RTells 28 [.agg wantC] (List.range 73) wnW [] (.one (.agg gotC)) 9 accF := by
  intro args hi hk w p sb n cs ct
  have hl : 1 < args.length := by rw [hi.1]; decide
  obtain ⟨h1, h2⟩ := szOf_ok hi (P := RaccTold) (racc_told acc_ran1 racc_same1) (racc_told acc_ran2 racc_same2) (racc_told acc_ran4 racc_same4) (racc_told acc_ran8 racc_same8) (racc_told acc_ranA racc_sameA) (racc_told acc_ranB racc_sameB) (racc_told acc_ranC racc_sameC) (racc_told acc_ranD racc_sameD)
  unfold accF
  rw [getD_app1 hl]
  exact h1 args h2 hk w p sb n cs ct
end Go.Proofs.YtkogjjeoihnjpaaGreat.Sx
end
section
set_option linter.unusedVariables false
set_option linter.unusedSimpArgs false
namespace Go.Proofs.YtkogjjeoihnjpaaGreat
open Go Go.RowKit Sx
set_option maxRecDepth 100000
structure Both (W wr : World) (N q p b : Nat) (S : Nat → Prop) (mq sb : Nat) (h hr : List Int) (ct cr : Nat → Nat) : Prop where
  pair : wr.heap[q]? = some (.cells #[.pointer (some ⟨p, 0, none⟩), .pointer (some ⟨mq, 0, none⟩)] 34 (0, 0))
  mach : MachAt wr p b (cksV hartC h)
  ram : RamAt wr b N ct S
  ref : RefAt wr mq sb N (cksV hartC hr)
  mem : RefMem wr sb N cr
  pb : p ≠ b
  pS : ¬ S p
  apq : q ≠ p ∧ q ≠ b ∧ ¬ S q
  apm : mq ≠ p ∧ mq ≠ b ∧ ¬ S mq
  aps : sb ≠ p ∧ sb ≠ b ∧ ¬ S sb
  ne : q ≠ mq ∧ q ≠ sb ∧ mq ≠ sb
  up : (∀ g, S g → W.heap.size ≤ g) ∧ W.heap.size ≤ p ∧ W.heap.size ≤ b ∧ W.heap.size ≤ q ∧ W.heap.size ≤ mq ∧ W.heap.size ≤ sb
  below : Below W.heap.size W wr
section
variable {W wr w' : World} {N q p b mq sb : Nat} {S T : Nat → Prop} {h hr : List Int} {ct cr : Nat → Nat}
theorem Both.lt (k : Both W wr N q p b S mq sb h hr ct cr) : p < wr.heap.size ∧ b < wr.heap.size ∧ q < wr.heap.size ∧ mq < wr.heap.size ∧ sb < wr.heap.size ∧ ∀ g, S g → g < wr.heap.size := by
  obtain ⟨⟨cur, c1, _⟩, _⟩ := k.mem
  exact ⟨blk_lt k.mach.2, k.ram.self.2, blk_lt k.pair, blk_lt k.ref.2, blk_lt c1, fun g hg => k.ram.lt hg⟩
/-- blocks turn that are none of theirs -/
theorem Both.turned (k : Both W wr N q p b S mq sb h hr ct cr) (ht : Turned T wr w') (hp : ¬ T p) (hb : ¬ T b) (hq : ¬ T q) (hm : ¬ T mq) (hs : ¬ T sb) (hS : ∀ g, S g → ¬ T g) (hW : ∀ g, T g → W.heap.size ≤ g) : Both W w' N q p b S mq sb h hr ct cr := by
  obtain ⟨l1, l2, l3, l4, l5, l6⟩ := k.lt
  obtain ⟨⟨cur, c1, c2, c3⟩, c4⟩ := k.mem
  exact ⟨(ht.block q l3 hq).trans k.pair, ⟨k.mach.1, (ht.block p l1 hp).trans k.mach.2⟩, k.ram.turned ht hb hS, ⟨k.ref.1, (ht.block mq l4 hm).trans k.ref.2⟩, ⟨⟨cur, (ht.block sb l5 hs).trans c1, c2, c3⟩, c4⟩, k.pb, k.pS, k.apq, k.apm, k.aps, k.ne, k.up, k.below.trans (ht.below k.below.size hW)⟩
theorem Both.on (k : Both W wr N q p b S mq sb h hr ct cr) (hb : Below wr.heap.size wr w') : Both W w' N q p b S mq sb h hr ct cr :=
  k.turned (T := fun _ => False) (.of_below hb _) id id id id id (fun _ _ => id) (fun _ h => h.elim)
theorem Both.macW (k : Both W wr N q p b S mq sb h hr ct cr) : MacW N ct := ⟨wr, p, b, _, S, k.mach, cksV_one hartC h, k.ram, k.pb, k.pS⟩
/-- an access, as numbers -/
noncomputable def accN (N : Nat) (ct : Nat → Nat) (a : List Int) : List Int := accF ct (a ++ [(N : Int)])
noncomputable def accM (N : Nat) (ct : Nat → Nat) (a : List Int) : Nat → Nat := putsL N ct ((accN N ct a).drop 9)
theorem Both.access (k : Both W wr N q p b S mq sb h hr ct cr) {a : List Int} (ha : InB wnW a) :
    Calls Tryz.prog 27 #[.pointer (some ⟨p, 0, none⟩), .agg (cksV wantC a).toArray] wr fun e w' => ∃ S', e = .returned (.agg (cksV gotC (accN N ct a)).toArray) ∧ Both W w' N q p b S' mq sb h hr (accM N ct a) cr ∧ InB accOrs (accN N ct a) := by
  obtain ⟨⟨k1, _⟩, k3⟩ := acc_tells a ha (fun q hq => by cases hq) wr p b N _ ct S k.mach (cksV_one hartC h) k.ram k.pb k.pS
  refine k3.mono ?_
  rintro e w' ⟨rfl, ⟨S', t1, t2, t3⟩, t4⟩
  obtain ⟨l1, l2, l3, l4, l5, l6⟩ := k.lt
  obtain ⟨⟨cur, c1, c2, c3⟩, c4⟩ := k.mem
  have hT : ∀ g, g < wr.heap.size → g ≠ p → g ≠ b → ¬ S g → w'.heap[g]? = wr.heap[g]? := fun g hg h1 h2 h3 => t2.block g hg (fun e => by
    rcases e with e | e | e
    · exact h1 e
    · exact h2 e
    · exact h3 e)
  have hS : ∀ g, g < wr.heap.size → ¬ S g → ¬ S' g := fun g hg hn hs => (t3 g hs).elim hn (fun h => by omega)
  refine ⟨S', rfl, ⟨(hT q l3 k.apq.1 k.apq.2.1 k.apq.2.2).trans k.pair, ⟨k.mach.1, t4.trans k.mach.2⟩, t1, ⟨k.ref.1, (hT mq l4 k.apm.1 k.apm.2.1 k.apm.2.2).trans k.ref.2⟩, ⟨⟨cur, (hT sb l5 k.aps.1 k.aps.2.1 k.aps.2.2).trans c1, c2, c3⟩, c4⟩, k.pb, hS p l1 k.pS, ⟨k.apq.1, k.apq.2.1, hS q l3 k.apq.2.2⟩, ⟨k.apm.1, k.apm.2.1, hS mq l4 k.apm.2.2⟩, ⟨k.aps.1, k.aps.2.1, hS sb l5 k.aps.2.2⟩, k.ne, ⟨fun g hg => ?_, k.up.2⟩, k.below.trans (t2.below k.below.size fun g hg => ?_)⟩, k1⟩
  · rcases t3 g hg with h0 | h0
    · exact k.up.1 g h0
    · have := k.below.size; omega
  · rcases hg with rfl | rfl | hg
    · exact k.up.2.1
    · exact k.up.2.2.1
    · exact k.up.1 g hg
/-- the same of the document's -/
theorem Both.raccess (k : Both W wr N q p b S mq sb h hr ct cr) (hM : MacW N cr) {a : List Int} (ha : InB wnW a) (hx : InB accOrs (accN N cr a)) :
    Calls Tryz.prog 28 #[.pointer (some ⟨mq, 0, none⟩), .agg (cksV wantC a).toArray] wr fun e w' => e = .returned (.agg (cksV gotC (accN N cr a)).toArray) ∧ Both W w' N q p b S mq sb h hr ct (accM N cr a) := by
  have k3 := racc_tells a ha (fun q hq => by cases hq) wr mq sb N _ cr hM k.ref (cksV_one hartC hr) k.mem k.ne.2.2
  rw [range_map ha.1] at k3
  refine k3.mono ?_
  rintro e w' ⟨rfl, t1, t2, t3⟩
  obtain ⟨l1, l2, l3, l4, l5, l6⟩ := k.lt
  have hT : ∀ g, g < wr.heap.size → g ≠ mq → g ≠ sb → w'.heap[g]? = wr.heap[g]? := fun g hg h1 h2 => t2.block g hg (fun e => e.elim h1 h2)
  refine ⟨rfl, ⟨(hT q l3 k.ne.1 k.ne.2.1).trans k.pair, ⟨k.mach.1, (hT p l1 (Ne.symm k.apm.1) (Ne.symm k.aps.1)).trans k.mach.2⟩, k.ram.turned t2 (fun e => e.elim (fun e => k.apm.2.1 e.symm) (fun e => k.aps.2.1 e.symm)) (fun g hg e => e.elim (fun e => k.apm.2.2 (e ▸ hg)) (fun e => k.aps.2.2 (e ▸ hg))), ⟨k.ref.1, t3.trans k.ref.2⟩, t1, k.pb, k.pS, k.apq, k.apm, k.aps, k.ne, k.up, k.below.trans (t2.below k.below.size fun g hg => ?_)⟩⟩
  rcases hg with rfl | rfl
  · exact k.up.2.2.2.2.1
  · exact k.up.2.2.2.2.2
end
end Go.Proofs.YtkogjjeoihnjpaaGreat
end
section
set_option linter.unusedVariables false
set_option linter.unusedSimpArgs false
namespace Go.Proofs.YtkogjjeoihnjpaaGreat
open Go Go.RowKit Sx
set_option maxRecDepth 100000
/-- what is in memory at the beginning -/
def ct0 (l : List Int) (k : Nat) : Nat → Nat := putTo (fun _ => 0) 0 (fun i => (l.getD i 0).toNat) (fun _ => true) k
theorem ct0_at (l : List Int) (k i : Nat) : ct0 l k i = if i < k then (l.getD i 0).toNat else 0 := by
  unfold ct0
  rw [putTo_at]
  simp
theorem Both.made {W w' : World} {N q p b mq sb k : Nat} {S : Nat → Prop} {l : List Int} (hN4 : 4 ≤ N) (hN : N ≤ 256) (hl : ∀ i, 0 ≤ l.getD i 0 ∧ l.getD i 0 < 256)
    (hp : PairIs w' W.heap.size N q p b mq sb S hart0L hart0L (putTo (fun _ => 0) 0 (fun i => (l.getD i 0).toNat) (fun _ => true) k) (fun i => .int .u8 (if i < k then l.getD i 0 else 0))) (hb : Below W.heap.size W w') :
    Both W w' N q p b S mq sb hart0L hart0L (ct0 l k) (ct0 l k) := by
  have hrow : (fun i => Value.int .u8 (if i < k then l.getD i 0 else 0)) = fun i => Value.int .u8 ((ct0 l k i : Nat) : Int) := by
    funext i
    rw [ct0_at]
    split
    · rw [Int.toNat_of_nonneg (hl i).1]
    · rfl
  have h1 := hp.row
  rw [hrow] at h1
  refine ⟨hp.pair, hp.mach, hp.ram, ⟨cksV_len _ _, hp.ref⟩, ⟨h1, fun i => ?_, hN4, hN⟩, hp.pb, hp.pS, hp.apq, hp.apm, hp.aps, hp.ne, ⟨hp.own, hp.p_, hp.b_, hp.q_, hp.mq_, hp.sb_⟩, hb⟩
  rw [ct0_at]
  have := hl i
  split <;> omega
/-! ### a word put -/
/-- memory behind a word that is put, or refused -/
def putM (N : Nat) (ct : Nat → Nat) (x k : Int) (v : Nat) : Nat → Nat := if mayErr N x k = 0 then putWord ct (x - 2147483648).toNat k.toNat v else ct
section
variable {W wr w' : World} {N q p b mq sb : Nat} {S T : Nat → Prop} {h hr : List Int} {ct cr : Nat → Nat}
theorem Both.ramTo (k : Both W wr N q p b S mq sb h hr ct cr) {ct' : Nat → Nat} (ht : RamTo wr w' b N ct' S) : ∃ S', Both W w' N q p b S' mq sb h hr ct' cr := by
  obtain ⟨S', t1, t2, t3⟩ := ht
  obtain ⟨l1, l2, l3, l4, l5, l6⟩ := k.lt
  obtain ⟨⟨cur, c1, c2, c3⟩, c4⟩ := k.mem
  have hbS : b ≠ q ∧ b ≠ mq ∧ b ≠ sb := ⟨fun e => k.apq.2.1 e.symm, fun e => k.apm.2.1 e.symm, fun e => k.aps.2.1 e.symm⟩
  have hT : ∀ g, g < wr.heap.size → ¬ S g → w'.heap[g]? = wr.heap[g]? := fun g hg hn => t2.block g hg hn
  have hS : ∀ g, g < wr.heap.size → ¬ S g → ¬ S' g := fun g hg hn hs => (t3 g hs).elim hn (fun h => by omega)
  refine ⟨S', (hT q l3 k.apq.2.2).trans k.pair, ⟨k.mach.1, (hT p l1 k.pS).trans k.mach.2⟩, t1, ⟨k.ref.1, (hT mq l4 k.apm.2.2).trans k.ref.2⟩, ⟨⟨cur, (hT sb l5 k.aps.2.2).trans c1, c2, c3⟩, c4⟩, k.pb, hS p l1 k.pS, ⟨k.apq.1, k.apq.2.1, hS q l3 k.apq.2.2⟩, ⟨k.apm.1, k.apm.2.1, hS mq l4 k.apm.2.2⟩, ⟨k.aps.1, k.aps.2.1, hS sb l5 k.aps.2.2⟩, k.ne, ⟨fun g hg => ?_, k.up.2⟩, k.below.trans (t2.below k.below.size fun g hg => k.up.1 g hg)⟩
  rcases t3 g hg with h0 | h0
  · exact k.up.1 g h0
  · have := k.below.size; omega
/-- Put of the program's machine -/
def PutIs (W : World) (N q p b mq sb : Nat) (h hr : List Int) (ct cr : Nat → Nat) (E : Int) (e : Ending) (w' : World) : Prop := ∃ S', e = .returned (.int .i64 E) ∧ Both W w' N q p b S' mq sb h hr ct cr
theorem Both.put (k : Both W wr N q p b S mq sb h hr ct cr) (x : Int) (x0 : 0 ≤ x) (x1 : x < 18446744073709551616) (n : Int) (v : Nat) : Calls Tryz.prog 22 #[.pointer (some ⟨p, 0, none⟩), .int .u64 x, .int .i64 n, .int .u64 v] wr (PutIs W N q p b mq sb h hr (putM N ct x n v) cr (mayErr N x n)) := by
  have HC : Hid (Calls Tryz.prog 48 #[.pointer (some ⟨b, 0, none⟩), .int .u64 x, .int .i64 n, .int .u64 v] wr (PutIs W N q p b mq sb h hr (putM N ct x n v) cr (mayErr N x n))) := by
    show Calls _ _ _ _ _
    by_cases hm : mayErr N x n = 0
    · refine (ram_put_ok k.ram x x0 x1 n v hm).mono ?_
      rintro e w1 ⟨rfl, ht⟩
      obtain ⟨S', k'⟩ := k.ramTo ht
      exact ⟨S', by rw [hm], by unfold putM; rw [if_pos hm]; exact k'⟩
    · refine (ram_put_err k.ram x x0 x1 n v hm).mono ?_
      rintro e w1 ⟨rfl, hb⟩
      exact ⟨S, rfl, by unfold putM; rw [if_neg hm]; exact k.on hb⟩
  have hcell := k.mach.ram
  have HQ : Hid (∀ e w', PutIs W N q p b mq sb h hr (putM N ct x n v) cr (mayErr N x n) e w' → e = .returned (.int .i64 (mayErr N x n))) := fun e w' hq => by
    obtain ⟨_, h1, _⟩ := hq
    exact h1
  generalize PutIs W N q p b mq sb h hr (putM N ct x n v) cr (mayErr N x n) = Q at *
  clear k
  go_enter Tryz.func22, Tryz.ntmps22
  go_wp2_with fail
  refine HC.out.mono ?_
  intro e w1 hq
  obtain rfl := HQ.out _ _ hq
  have HH := Lib.hid hq
  clear hq
  go_wp2_with fail
  exact HH.out
/-- a byte of the document's memory -/
theorem Both.setB (k : Both W wr N q p b S mq sb h hr ct cr) (i : Nat) (hi : i < N * 4096) (v : Nat) (hv : v < 256) : Both W (wr.setCell ⟨sb, i, none⟩ (.int .u8 v)) N q p b S mq sb h hr ct (updB cr i v) := by
  obtain ⟨l1, l2, l3, l4, l5, l6⟩ := k.lt
  obtain ⟨⟨cur, c1, c2, c3⟩, c4, c5⟩ := k.mem
  have hT : Turned (· = sb) wr (wr.setCell ⟨sb, i, none⟩ (.int .u8 v)) := ⟨rfl, rfl, rfl, by simp [World.setCell], fun g hg hn => blk_set_ne _ _ (fun e => hn e.symm)⟩
  refine ⟨(hT.block q l3 k.ne.2.1).trans k.pair, ⟨k.mach.1, (hT.block p l1 (Ne.symm k.aps.1)).trans k.mach.2⟩, k.ram.turned hT (Ne.symm k.aps.2.1) (fun g hg e => k.aps.2.2 (e ▸ hg)), ⟨k.ref.1, (hT.block mq l4 k.ne.2.2).trans k.ref.2⟩, ⟨⟨cur.setIfInBounds i (.int .u8 v), blk_set c1 i _, by simp [c2], fun j hj => ?_⟩, fun j => ?_, c5⟩, k.pb, k.pS, k.apq, k.apm, k.aps, k.ne, k.up, k.below.trans (hT.below k.below.size fun g hg => by rw [hg]; exact k.up.2.2.2.2.2)⟩
  · rw [Array.getElem?_setIfInBounds]
    show _ = some (Value.int .u8 ((if j = i then v else cr j : Nat) : Int))
    split
    · rename_i e; subst e; rw [if_pos (by omega), if_pos rfl]
    · rename_i e; rw [if_neg (fun h => e h.symm)]; exact c3 j hj
  · unfold updB
    split
    · exact hv
    · exact c4 j
end
end Go.Proofs.YtkogjjeoihnjpaaGreat
end
section
set_option linter.unusedVariables false
set_option linter.unusedSimpArgs false
namespace Go.Proofs.YtkogjjeoihnjpaaGreat
open Go.RowKit Sx
set_option maxRecDepth 100000
/-! ### whole structs in one step -/
theorem st_rec (x v : Value) : Instr.storeAt 30 x v = storeS 30 x v := rfl
theorem rs_rec (w : World) (g : Nat) (C : Array Value) (h : rowIs w g 12 = true) (hC : stOk 12 C = true) : (storeS 30 (.pointer (some ⟨g, 0, none⟩)) (.agg C)).run Tryz.prog w = .ok () (w.setRow g C) :=
  run_storeS' Tryz.prog 30 12 (by kernel_rfl) w g C h hC
theorem st_hart (x v : Value) : Instr.storeAt 43 x v = storeS 43 x v := rfl
theorem ld_hart (x : Value) : Instr.loadAt 43 x = loadS 43 x := rfl
theorem rl_hart (w : World) (g : Nat) (h : rowIs w g 66 = true) : (loadS 43 (.pointer (some ⟨g, 0, none⟩))).run Tryz.prog w = .ok (.agg (rowOf w g)) w :=
  run_loadS Tryz.prog 43 _ 66 Tryz.underlying43 rfl (by kernel_rfl) w g h
theorem rs_hart (w : World) (g : Nat) (C : Array Value) (h : rowIs w g 66 = true) (hC : stOk 66 C = true) : (storeS 43 (.pointer (some ⟨g, 0, none⟩)) (.agg C)).run Tryz.prog w = .ok () (w.setRow g C) :=
  run_storeS' Tryz.prog 43 66 (by kernel_rfl) w g C h hC
def loadE (x : Value) : Sem Value := Instr.loadAt 38 x
theorem ld_env (x : Value) : Instr.loadAt 38 x = loadE x := rfl
theorem rl_env {w : World} {b o : Nat} {ev : List Int} (h : w.rangeAt b o (cksV envC ev)) : (loadE (.pointer (some ⟨b, o, none⟩))).run Tryz.prog w = .ok (.agg (cksV envC ev).toArray) w :=
  run_loadAt_mid (P := Tryz.prog) w b o 38 (cksV envC ev) _ h Tryz.underlying38 rfl (by rw [cksV_len]; kernel_rfl)
def recA (R : List Int) : Array Value := (cksV recC R).toArray
def hartA (h : List Int) : Array Value := (cksV hartC h).toArray
theorem recA_ok (R : List Int) : stOk 12 (recA R) = true := by
  show ((recA R).size == 12 && (recA R).all (·.oneCell')) = true
  rw [show (recA R).all (·.oneCell') = true from all_oneCell_toArray (cksV_one recC R)]
  simp only [recA, List.size_toArray, cksV_len]
  rfl
theorem hartA_ok (h : List Int) : stOk 66 (hartA h) = true := by
  show ((hartA h).size == 66 && (hartA h).all (·.oneCell')) = true
  rw [show (hartA h).all (·.oneCell') = true from all_oneCell_toArray (cksV_one hartC h)]
  simp only [hartA, List.size_toArray, cksV_len]
  rfl
theorem recA_size (R : List Int) : (recA R).size = 12 := by simp only [recA, List.size_toArray, cksV_len]; rfl
theorem hartA_size (h : List Int) : (hartA h).size = 66 := by simp only [hartA, List.size_toArray, cksV_len]; rfl
theorem recA_get (R : List Int) (k : Nat) (c : CK) (h : recC[k]? = some c) : (recA R)[k]? = some (ckV c (R.getD k 0)) := by
  simp only [recA, List.getElem?_toArray]; exact cksV_get recC R k c h
theorem hartA_get (l : List Int) (k : Nat) (c : CK) (h : hartC[k]? = some c) : (hartA l)[k]? = some (ckV c (l.getD k 0)) := by
  simp only [hartA, List.getElem?_toArray]; exact cksV_get hartC l k c h
theorem rangeAt_below {w w' : World} {b o : Nat} {cs : List Value} (h : w.rangeAt b o cs) (hb : b < w.heap.size) (hw : Below w.heap.size w w') : w'.rangeAt b o cs := fun j v hv => by
  rw [← h j v hv]
  simp only [World.cell?, hw.block b hb]
end Go.Proofs.YtkogjjeoihnjpaaGreat
end
section
set_option linter.unusedVariables false
set_option linter.unusedSimpArgs false
namespace Go.Proofs.YtkogjjeoihnjpaaGreat
open Go.RowKit
set_option maxRecDepth 100000
/-! ### a page is loaded and stored in one step -/
theorem page_one (f : Nat → Nat) : (pageArr f).all (·.oneCell') = true := by
  rw [Array.all_eq_true]
  intro i hi
  have h := pageArr_get f i (by rw [pageArr_size] at hi; exact hi)
  rw [Array.getElem?_eq_getElem hi] at h
  rw [Option.some.inj h]
  rfl
theorem ld_page (x : Value) : Instr.loadAt 139 x = loadS 139 x := rfl
theorem st_page (x v : Value) : Instr.storeAt 139 x v = storeS 139 x v := rfl
theorem rl_page (w : World) (g : Nat) (h : rowIs w g 4096 = true) : (loadS 139 (.pointer (some ⟨g, 0, none⟩))).run Tryz.prog w = .ok (.agg (rowOf w g)) w :=
  run_loadS Tryz.prog 139 _ 4096 Tryz.underlying139 rfl (by kernel_rfl) w g h
theorem rs_page (w : World) (g : Nat) (C : Array Value) (h : rowIs w g 4096 = true) (hC : stOk 4096 C = true) : (storeS 139 (.pointer (some ⟨g, 0, none⟩)) (.agg C)).run Tryz.prog w = .ok () (w.setRow g C) :=
  run_storeS' Tryz.prog 139 4096 (by kernel_rfl) w g C h hC
theorem page_ok (f : Nat → Nat) : stOk 4096 (pageArr f) = true := by
  show ((pageArr f).size == 4096 && (pageArr f).all (·.oneCell')) = true
  rw [page_one f, Bool.and_true, beq_iff_eq]
  exact pageArr_size f
theorem page_row {w : World} {g : Nat} {f : Nat → Nat} {T : TypeId} (h : w.heap[g]? = some (.cells (pageArr f) T (0, 0))) : rowIs w g 4096 = true ∧ rowOf w g = pageArr f := ⟨by have := rowIs_of h; rw [pageArr_size] at this; exact this, rowOf_of h⟩
/-- a page put in whole -/
theorem put_page {w w1 : World} {b m n : Nat} {pg : Nat → Option Nat} {ct : Nat → Nat} (h : RamIs w b m n pg ct) {k : Nat} (hp : pg k = none) (hk : k < 256) {f : Nat → Nat} (hf : ∀ j, f j < 256) {D : DataW Unit} (hm : PgMap w1 m (pgSet pg k w.heap.size) D)
    (hg : (w.alloc (.cells (pageArr f) 139)).grownBy w1 (some m)) : RamIs w1 b m n (pgSet pg k w.heap.size) (fun i => if i / 4096 = k then f (i % 4096) else ct i) := by
  have hs := RamAt.self ⟨m, pg, h, rfl⟩
  have hlt : ∀ g, RamOwn m pg g → g < w.heap.size := fun g hg => RamAt.lt ⟨m, pg, h, rfl⟩ hg
  have hbm : b ≠ m := by rintro rfl; exact hs.1 (.inl rfl)
  have hold : ∀ g, g < w.heap.size → g ≠ m → w1.heap[g]? = w.heap[g]? := fun g hg1 hg2 => by
    rw [hg.block g (by simp; omega) (by simpa using hg2), blk_alloc_old _ _ _ hg1]
  have hmg : m < w.heap.size := hlt m (.inl rfl)
  have hnew : w1.heap[w.heap.size]? = some (.cells (pageArr f) 139 (0, 0)) := by
    rw [hg.block w.heap.size (by simp) (by simp; omega), blk_alloc]
  have hdm : ∀ k' j, j < 4096 → (4096 * k' + j) / 4096 = k' ∧ (4096 * k' + j) % 4096 = j := fun k' j hj => by omega
  refine ⟨(hold b hs.2 hbm).trans h.at_, h.lo, h.hi, ⟨D, hm⟩, fun k' g' hk' => ?_, fun k' hk' j hj => ?_, fun k1 k2 g' h1 h2 => ?_, fun i => ?_, fun k' hk' => ?_⟩
  · unfold pgSet at hk'
    by_cases e : k' = k
    · subst e
      rw [if_pos rfl] at hk'
      obtain rfl := Option.some.inj hk'
      rw [hnew]
      refine congrArg (fun c => some (Obj.cells c _ _)) (pageArr_congr fun j hj => ?_)
      rw [(hdm k' j hj).1, (hdm k' j hj).2, if_pos rfl]
    · rw [if_neg e] at hk'
      have hgm : g' ≠ m := by
        rintro rfl
        obtain ⟨es, c, hm⟩ := h.map_is
        rw [h.page k' g' hk'] at hm
        cases hm
      rw [hold g' (hlt g' (.inr ⟨k', hk'⟩)) hgm, h.page k' g' hk']
      refine congrArg (fun c => some (Obj.cells c _ _)) (pageArr_congr fun j hj => ?_)
      rw [(hdm k' j hj).1, if_neg e]
  · unfold pgSet at hk'
    by_cases e : k' = k
    · rw [if_pos e] at hk'; cases hk'
    · rw [if_neg e] at hk'
      show (if (4096 * k' + j) / 4096 = k then _ else _) = 0
      rw [(hdm k' j hj).1, if_neg e]
      exact h.zero k' hk' j hj
  · unfold pgSet at h1 h2
    by_cases e1 : k1 = k <;> by_cases e2 : k2 = k
    · rw [e1, e2]
    · rw [if_pos e1] at h1; rw [if_neg e2] at h2
      have := hlt g' (.inr ⟨k2, h2⟩)
      have := Option.some.inj h1
      omega
    · rw [if_neg e1] at h1; rw [if_pos e2] at h2
      have := hlt g' (.inr ⟨k1, h1⟩)
      have := Option.some.inj h2
      omega
    · rw [if_neg e1] at h1; rw [if_neg e2] at h2
      exact h.inj k1 k2 g' h1 h2
  · show (if i / 4096 = k then f (i % 4096) else ct i) < 256
    split
    · exact hf _
    · exact h.bd i
  · unfold pgSet at hk'
    by_cases e : k' = k
    · rw [e]; exact hk
    · rw [if_neg e] at hk'; exact h.small k' hk'
/-- the bytes of the pages that have been copied -/
def ctLeft (left : Lit → Bool) (ct : Nat → Nat) : Nat → Nat := fun i => if left (keyL (i / 4096)) then 0 else ct i
/-- the copy under way -/
def ForkR (w : World) (n m r : Nat) (pg : Nat → Option Nat) (ct : Nat → Nat) (D : DataW Unit) (wr : World) : Prop :=
  ∃ left cnt pg2, wr.ranges Tryz.prog 3 pgR m r (pgCount pg 256) D left cnt ∧ RamIs wr (w.heap.size + 1) w.heap.size n pg2 (ctLeft left ct) ∧ (∀ k, left (keyL k) = true → pg2 k = none) ∧ (∀ k g, pg2 k = some g → w.heap.size ≤ g) ∧ (∀ k, pg k = none → left (keyL k) = false) ∧ Below w.heap.size w wr
theorem pg_invK : ∀ key kl, keyOf Tryz.prog 3 key = some kl → ∃ x, key = Value.int .i64 x := fun key kl h => by
  obtain ⟨x, h1, _⟩ := Go.Maps.keyOf_int_inv Tryz.underlying3 h
  exact ⟨x, h1⟩
theorem pg_invV : ∀ v y, pgR v = some y → ∃ c, v = pgV c := fun v y h => by
  unfold pgR at h
  split at h
  · exact ⟨some _, rfl⟩
  · exact ⟨none, rfl⟩
  · cases h
theorem keyL_same (a k : Nat) : (keyL a).sameKey (keyL k) = decide (a = k) := by
  by_cases e : a = k
  · subst e; simp [keyL, Lit.sameKey]
  · have e2 : ¬ ((a : Int) = k) := by omega
    simp [keyL, Lit.sameKey, e, e2]
/-- the bytes after one more page -/
theorem ctLeft_step (left : Lit → Bool) (ct : Nat → Nat) (k : Nat) : (fun i => if i / 4096 = k then ct (4096 * k + i % 4096) else ctLeft left ct i) = ctLeft (fun z => left z && !z.sameKey (keyL k)) ct := by
  funext i
  unfold ctLeft
  show _ = if (left (keyL (i / 4096)) && !(keyL (i / 4096)).sameKey (keyL k)) = true then 0 else ct i
  rw [keyL_same]
  by_cases e : i / 4096 = k
  · rw [if_pos e, decide_eq_true e, if_neg (by simp)]
    congr 1
    omega
  · rw [if_neg e, decide_eq_false e]
    simp
/-- the entry that comes -/
theorem pg_entry {w : World} {m : Nat} {pg : Nat → Option Nat} {D : DataW Unit} (h : PgMap w m pg D) {x : Int} {p : Option Nat} {kl : Lit} {y : DataW Unit × List MemPlace} (hkey : keyOf Tryz.prog 3 (.int .i64 x) = some kl) (hv : pgR (pgV p) = some y) (hat : ∀ zd, D.atKey kl zd = y.1) :
    ∃ k g, x = ((k : Nat) : Int) ∧ kl = keyL k ∧ k < 256 ∧ p = some g ∧ pg k = some g := by
  obtain ⟨k, rfl, hk, hs⟩ := h.has kl (Go.Maps.has_true_of_atKey hat)
  obtain ⟨x', h1, h2, _⟩ := Go.Maps.keyOf_int_inv Tryz.underlying3 hkey
  injection h1 with _ h1
  subst h1
  unfold keyL at h2
  injection h2 with _ h2
  have hg := h.get k
  rw [hat] at hg
  rw [pgR_V] at hv
  have hy := Option.some.inj hv
  rw [← hy] at hg
  simp only at hg
  injection hg with hg
  injection hg with _ hg
  have hp := pgI_inj hg
  obtain ⟨g, hpg⟩ := Option.isSome_iff_exists.1 hs
  exact ⟨k, g, h2.symm, rfl, hk, hp.trans hpg, hpg⟩
attribute [local go_sem ↓] ld_page st_page
attribute [local go_sem] rl_page rs_page row_alloc row_drew row_drewN is_alloc is_drew is_drewN row_setCell is_setCell setRow_alloc_new objRow_cells objIs_cells
set_option maxHeartbeats 4000000 in
theorem ram_fork {w : World} {b m n : Nat} {pg : Nat → Option Nat} {ct : Nat → Nat} (h : RamIs w b m n pg ct) :
    Calls Tryz.prog 74 #[.pointer (some ⟨b, 0, none⟩)] w fun e w' => e = .returned (.pointer (some ⟨w.heap.size + 1, 0, none⟩)) ∧ Below w.heap.size w w' ∧ ∃ S, RamAt w' (w.heap.size + 1) n ct S ∧ ∀ g, S g → w.heap.size ≤ g := by
  obtain ⟨D, hD⟩ := h.map
  have c0 : w.cell? ⟨b, 0, none⟩ = some (.int .i64 n) := blk_cell h.at_ 0
  have c1 : w.cell? ⟨b, 1, none⟩ = some (.map (some m)) := blk_cell h.at_ 1
  have hbl : b < w.heap.size := blk_lt h.at_
  have H := Lib.hid h
  have HD := Lib.hid hD
  clear h hD
  have hmm := @run_makeMap Tryz.prog
  go_enter Tryz.func74, Tryz.ntmps74
  go_wp2_with (at_range; refine wpList_range_own _ rfl _ 134 rfl 3 137 keyI Tryz.underlying134 pgR m (pgCount pg 256) D rfl ((HD.out.own.alloc _).alloc _) ?_; intro w0 hrg0 hg0 hs0)
  go_frame
  have HN0 : Hid (RamIs ((w.alloc (.map #[] 0)).alloc (.cells #[.int .i64 n, .map (some w.heap.size)] 136)) (w.heap.size + 1) w.heap.size n (fun _ => none) (ctLeft (Go.Maps.has D) ct)) := by
    refine ⟨?_, H.out.lo, H.out.hi, ⟨.map [], (PgMap.new w).kept (blk_alloc_old _ _ _ (by simp))⟩, (fun k g h => by cases h), fun k _ j hj => ?_, (fun k k' g h => by cases h), fun i => ?_, (fun k h => by cases h)⟩
    · have := blk_alloc (w.alloc (.map #[] 0)) (.cells #[.int .i64 n, .map (some w.heap.size)] 136)
      simpa using this
    · unfold ctLeft
      rw [show (4096 * k + j) / 4096 = k by omega]
      split
      · rfl
      · rename_i hh
        cases hpk : pg k with
        | none => exact H.out.zero k hpk j hj
        | some g =>
          exfalso
          apply hh
          have hg := HD.out.get k
          rw [hpk] at hg
          cases hq : Go.Maps.has D (keyL k) with
          | true => rfl
          | false =>
            rw [Go.Maps.atKey_of_not_has hq] at hg
            injection hg with hg
            injection hg with _ hg
            simp [pgI] at hg
    · unfold ctLeft
      split
      · omega
      · exact H.out.bd i
  have er : ((w.alloc (Obj.map #[] 0)).alloc (Obj.cells #[Value.int IntKind.i64 n, Value.map (some w.heap.size)] 136)).heap.size = w.heap.size + 2 := by simp
  rw [er] at hrg0 ⊢
  have HB0 : Hid (Below w.heap.size w w0) := (((Below.refl w.heap.size w).alloc (Nat.le_refl _) _).alloc (by simp) _).grown hg0 (by simp; omega) (fun j hj => by cases hj)
  have HR0 := Lib.hid hrg0
  have HG0 := Lib.hid hg0
  clear hrg0 hg0 hs0 er hmm
  go_loopw [] (fun wr => ForkR w n m (w.heap.size + 2) pg ct D wr) (fun wr => wr.rangeLeft m (w.heap.size + 2))
  case atStart =>
    refine ⟨Go.Maps.has D, _, fun _ => none, HR0.out, HN0.out.keep (fun g hg => ?_), fun _ _ => rfl, (fun k g h => by cases h), fun k hk => ?_, HB0.out⟩
    · rcases hg with rfl | rfl | ⟨k, hk⟩
      · exact HG0.out.block _ (by simp <;> omega) (by simp)
      · exact HG0.out.block _ (by simp <;> omega) (by simp)
      · cases hk
    · cases hq : Go.Maps.has D (keyL k) with
      | false => rfl
      | true =>
        obtain ⟨k', e, _, h2⟩ := HD.out.has _ hq
        rw [← keyL_inj e, hk] at h2
        cases h2
  case round =>
    clear HR0 HG0 HB0 HN0
    obtain ⟨left, cnt, pg2, hrg, hram, hl1, hl2, hl3, hb⟩ := hrel
    have HRG := Lib.hid hrg
    have HRAM := Lib.hid hram
    have HL := Lib.hid (And.intro hl1 (And.intro hl2 hl3))
    have HB := Lib.hid hb
    clear hrg hram hl1 hl2 hl3 hb
    go_wp2_with (at_next; refine wpList_next_ranges _ rfl _ rfl 3 keyI pgR (Value.int .i64) pgV pg_invK pg_invV m (w.heap.size + 2) (pgCount pg 256) D left cnt rfl HRG.out ?_ ?_)
    · intro hc0 hl0
      have HL0 := Lib.hid hl0
      clear hl0 hc0
      go_wp2_with fail
      go_ret
      refine ⟨rfl, HB.out, RamOwn w.heap.size pg2, RamAt.ext ⟨_, _, HRAM.out, rfl⟩ (fun i => by unfold ctLeft; rw [HL0.out]; rfl), ?_⟩
      rintro g (rfl | ⟨k, hk⟩)
      · exact Nat.le_refl _
      · exact HL.out.2.1 k g hk
    · intro x p kl y1 y2 w1 cnt1 hkey hlk hv hat hrg1 hlt hg1 hs1 hen
      obtain ⟨k, g, rfl, rfl, hk256, rfl, hpg⟩ := pg_entry (y := (y1, y2)) HD.out hkey hv hat
      have hlt0 := HRG.out.lt
      have h2 := HL.out.1 k hlk
      have hgl : g < w.heap.size := RamAt.lt ⟨m, pg, H.out, rfl⟩ (.inr ⟨k, hpg⟩)
      have hkp : ∀ q, q < wr.heap.size → q ≠ w.heap.size + 2 → w1.heap[q]? = wr.heap[q]? := fun q h1 h2 => hg1.block q h1 (by simp; omega)
      have hpage : w1.heap[g]? = some (.cells (pageArr fun j => ct (4096 * k + j)) 139 (0, 0)) := by
        rw [hkp g (by omega) (by omega), HB.out.block g hgl]
        exact H.out.page k g hpg
      obtain ⟨r4, o4⟩ := page_row hpage
      have hpo := page_ok fun j => ct (4096 * k + j)
      have HRAM1 : Hid (RamIs w1 (w.heap.size + 1) w.heap.size n pg2 (ctLeft left ct)) := HRAM.out.keep fun q hq => by
        have hself := RamAt.self ⟨_, _, HRAM.out, rfl⟩
        rcases hq with rfl | hq
        · exact hkp _ hself.2 (by omega)
        · have hql := RamAt.lt ⟨_, _, HRAM.out, rfl⟩ hq
          refine hkp q hql ?_
          rintro rfl
          rcases hq with hq | ⟨k', hk'⟩
          · omega
          · have h5 := HRAM.out.page k' _ hk'
            obtain ⟨_, _, since, seen, c0, _, _, _, _, hr, _⟩ := HRG.out
            rw [hr] at h5
            cases h5
      obtain ⟨D2, hD2⟩ := HRAM1.out.map
      have HD2 := Lib.hid hD2
      have cm : w1.cell? ⟨w.heap.size + 1, 1, none⟩ = some (.map (some w.heap.size)) := blk_cell HRAM1.out.at_ 1
      have hbl2 : w.heap.size + 1 < w1.heap.size := blk_lt HRAM1.out.at_
      have hzs : (Tryz.zeroCells139.size == 4096) = true := by rw [zero_page, pageArr_size]; rfl
      have HKEY : Hid (keyOf Tryz.prog 3 (.int .i64 ((k : Nat) : Int)) = some (keyL k)) := keyOf_nat (by omega)
      have HS := Lib.hid (And.intro hlk (And.intro hrg1 (And.intro hlt (And.intro hg1 hpg))))
      have hgl1 : g < w1.heap.size := by have := hg1.size; omega
      have hv2 : pgV (some g) = .pointer (some ⟨g, 0, none⟩) := rfl
      rw [hv2] at hen ⊢
      clear hkey hlk hv hat hrg1 hlt hg1 hs1 hpg hpage hkp hD2
      go_wp2_with (at_mapUpdate; refine wpList_mapUpdate_own _ rfl _ _ _ 134 rfl 3 137 keyI Tryz.underlying134 pgR w.heap.size (pgCount pg2 256) D2 rfl (HD2.out.own.alloc _) (Nat.lt_of_le_of_lt (pgCount_le pg2 256) (by decide)) _ _ (keyL k) rfl rfl HKEY.out _ [] (pgR_V (some w1.heap.size)) ?_; intro w2 hown2 hgrow2; have HP2 := Lib.hid (put_page HRAM1.out h2 hk256 (fun j => H.out.bd _) (HD2.out.put hk256 h2 w1.heap.size hown2) hgrow2); have HG2 := Lib.hid hgrow2; clear hown2 hgrow2)
      have hne1 : w.heap.size ≠ m := fun e => by have := (RamAt.lt ⟨m, pg, H.out, rfl⟩ (.inl rfl) : m < w.heap.size); omega
      have hrg2 := (HS.out.2.1.alloc (.cells (pageArr fun j => ct (4096 * k + j)) 139)).kept HG2.out (fun e => hne1 (Option.some.inj e).symm) (fun e => by have := Option.some.inj e; omega)
      go_roundw
      case rel =>
        suffices hf : ForkR w n m (w.heap.size + 2) pg ct D w2 from ⟨_, _, _, _, _, _, _, _, _, _, _, _, _, _, _, _, hf, rfl⟩
        refine ⟨_, cnt1, pgSet pg2 k w1.heap.size, hrg2, ?_, fun k' hk' => ?_, fun k' g' hk' => ?_, fun k' hk' => ?_, ?_⟩
        · rw [← ctLeft_step]
          exact HP2.out
        · rw [keyL_same, Bool.and_eq_true, Bool.not_eq_true', decide_eq_false_iff_not] at hk'
          unfold pgSet
          rw [if_neg hk'.2]
          exact HL.out.1 k' hk'.1
        · unfold pgSet at hk'
          split at hk'
          · have := Option.some.inj hk'
            have := HB.out.size
            omega
          · exact HL.out.2.1 k' g' hk'
        · show (left (keyL k') && _) = false
          rw [HL.out.2.2 k' hk']
          rfl
        · exact ((HB.out.grown HS.out.2.2.2.1 (by omega) (fun j hj => by cases hj; omega)).alloc (by omega) _).grown HG2.out (by simp; omega) (fun j hj => by cases hj; omega)
      case measure =>
        rw [hrg2.left_eq, HRG.out.left_eq]
        exact HS.out.2.2.1
end Go.Proofs.YtkogjjeoihnjpaaGreat
end
section
set_option linter.unusedVariables false
set_option linter.unusedSimpArgs false
namespace Go.Proofs.YtkogjjeoihnjpaaGreat
open Go.RowKit Sx
set_option maxRecDepth 100000
def loadH (x : Value) : Sem Value := Instr.loadAt 43 x
theorem ld_hartM (x : Value) : Instr.loadAt 43 x = loadH x := rfl
theorem rl_hartM {w : World} {p b : Nat} {h : List Int} (hm : MachAt w p b (cksV hartC h)) : (loadH (.pointer (some ⟨p, 0, none⟩))).run Tryz.prog w = .ok (.agg (hartA h)) w :=
  run_loadAt_mid (P := Tryz.prog) w p 0 43 (cksV hartC h) _ hm.range Tryz.underlying43 rfl (by rw [cksV_len]; kernel_rfl)
theorem mach_ram {w : World} {p b : Nat} {h : List Int} (hm : MachAt w p b (cksV hartC h)) : w.cell? ⟨p, 66, none⟩ = some (.pointer (some ⟨b, 0, none⟩)) := by
  rw [blk_cell hm.2 66]
  simp only [List.getElem?_toArray]
  rw [List.getElem?_append_right (by rw [cksV_len]; decide), cksV_len]
  rfl
def RamMade (w : World) (N : Nat) (ct : Nat → Nat) (e : Ending) (w' : World) : Prop := ∃ rb S, e = .returned (.pointer (some ⟨rb, 0, none⟩)) ∧ RamAt w' rb N ct S ∧ (∀ g, g = rb ∨ S g → w.heap.size ≤ g) ∧ Below w.heap.size w w'
theorem ram_fork_at {w : World} {b N : Nat} {ct : Nat → Nat} {S : Nat → Prop} (h : RamAt w b N ct S) : Calls Tryz.prog 74 #[.pointer (some ⟨b, 0, none⟩)] w (RamMade w N ct) := by
  obtain ⟨m, pg, h1, h2⟩ := h
  refine (ram_fork h1).mono ?_
  rintro e w' ⟨rfl, hb, S, hr, hS⟩
  refine ⟨_, S, rfl, hr, ?_, hb⟩
  rintro g (rfl | hg)
  · omega
  · exact hS g hg
theorem isa_ram {w : World} {p b N : Nat} {h : List Int} {ct : Nat → Nat} {S : Nat → Prop} (hm : MachAt w p b (cksV hartC h)) (hr : RamAt w b N ct S) : Calls Tryz.prog 29 #[.pointer (some ⟨p, 0, none⟩)] w (RamMade w N ct) := by
  have c66 := mach_ram hm
  have HR := Lib.hid (ram_fork_at hr)
  clear hm hr
  go_enter Tryz.func29, Tryz.ntmps29
  go_wp2_with fail
  refine HR.out.mono ?_
  rintro e w' ⟨rb, S', rfl, h1, h2, h3⟩
  have H := Lib.hid (And.intro h1 (And.intro h2 h3))
  clear h1 h2 h3 HR
  go_wp2_with fail
  go_ret
  exact ⟨rb, S', rfl, H.out.1, H.out.2.1, H.out.2.2⟩
end Go.Proofs.YtkogjjeoihnjpaaGreat
end
section
set_option linter.unusedVariables false
set_option linter.unusedSimpArgs false
namespace Go.Proofs.YtkogjjeoihnjpaaGreat.Sx
open Go Go.RowKit
set_option maxRecDepth 100000
/-- is b what c is not? -/
def negB (c b : E) : Bool := decide (b = .no c) || (match c, b with
  | .cmp .eql x y, .cmp .neq x' y' => decide (x' = x) && decide (y' = y)
  | _, _ => false)
theorem negB_ok (V : Env) {c b : E} (h : negB c b = true) : b.tr V = !(c.tr V) := by
  unfold negB at h
  rcases Bool.or_eq_true_iff.1 h with h | h
  · rw [of_decide_eq_true h, tr_no]
  · split at h
    · obtain ⟨h1, h2⟩ := Bool.and_eq_true_iff.1 h
      rw [of_decide_eq_true h1, of_decide_eq_true h2, tr_cmp, tr_cmp]
      rfl
    · cases h
/-- is it true whatever the variables are? -/
def selfB : E → Bool
  | .tt b => b
  | .cmp .eql a b => decide (a = b)
  | .ite c a b => (selfB c && selfB a) || (decide (a = c) && negB c b)
  | _ => false
theorem selfB_ok (V : Env) : ∀ e : E, selfB e = true → e.tr V = true
  | .tt b, h => h
  | .cmp .eql a b, h => by
    have h : decide (a = b) = true := h
    rw [of_decide_eq_true h, tr_cmp]
    simp [cmpD]
  | .ite c a b, h => by
    have h : ((selfB c && selfB a) || (decide (a = c) && negB c b)) = true := h
    rw [tr_ite]
    rcases Bool.or_eq_true_iff.1 h with h | h
    · obtain ⟨h1, h2⟩ := Bool.and_eq_true_iff.1 h
      rw [if_pos (selfB_ok V c h1)]
      exact selfB_ok V a h2
    · obtain ⟨h1, h2⟩ := Bool.and_eq_true_iff.1 h
      rw [of_decide_eq_true h1, negB_ok V h2]
      cases c.tr V <;> rfl
def selfO : Option E → Bool
  | some e => selfB e
  | none => false
/-- values of so many cells held against themselves -/
theorem eq_self (T : TypeId) (cs : List CK) (rs : List (Int × Int)) (n : Nat) (hl : rs.length ≤ 1000) (he : selfO (xeqP Tryz.prog [] n T (.agg (cksSC cs (vars 0 rs))) (.agg (cksSC cs (vars 0 rs)))) = true) {l : List Int} (hi : InB rs l) (d : Nat) (hd : n ≤ d) (w : World) :
    (Op.equalIn d T (.agg (cksV cs l).toArray) (.agg (cksV cs l).toArray)).run Tryz.prog w = .ok true w := by
  have hv := (argsG_rel (ft := fun _ _ => []) (ss := []) hi hl).2
  have hd0 : (vars 0 rs).map (E.den (envA (fun _ _ => []) l)) = l := vars_den hi.1 fun j m hj => by
    show l.getD (0 + j) 0 = m
    rw [Nat.zero_add, List.getD, hj]; rfl
  have hr : All2 (SC.rel (ctx1 (envA (fun _ _ => []) l))) (cksSC cs (vars 0 rs)) (cksV cs l) := by
    have := cksSC_rel (C := ctx1 (envA (fun _ _ => []) l)) cs (l := vars 0 rs) hv
    rw [show (vars 0 rs).map (E.den (ctx1 (envA (fun _ _ => []) l)).V) = l from hd0] at this
    exact this
  have hc : HCore (ctx1 (envA (fun _ _ => []) l)) [] w := ⟨fun b blk h => by simp [hget] at h, fun b b' blk blk' g c c' h => by simp [hget] at h⟩
  cases hx : xeqP Tryz.prog [] n T (.agg (cksSC cs (vars 0 rs))) (.agg (cksSC cs (vars 0 rs))) with
  | none => rw [hx] at he; cases he
  | some e =>
  rw [hx] at he
  rw [← selfB_ok (envA (fun _ _ => []) l) e he]
  exact (xeqP_ok hc n hx (u := .agg (cksV cs l).toArray) (v := .agg (cksV cs l).toArray) ⟨_, hr, rfl⟩ ⟨_, hr, rfl⟩ d hd).2
theorem eq_hart {h : List Int} (hh : InB hartR h) (w : World) : (Op.equalIn 10000 43 (.agg (hartA h)) (.agg (hartA h))).run Tryz.prog w = .ok true w :=
  eq_self 43 hartC hartR 100 (by decide) (by kernel_rfl) hh 10000 (by decide) w
end Go.Proofs.YtkogjjeoihnjpaaGreat.Sx
end
section
set_option linter.unusedVariables false
set_option linter.unusedSimpArgs false
namespace Go.Proofs.YtkogjjeoihnjpaaGreat
open Go.RowKit
/-- bytes l and the error k, nothing that was there turned -/
def Reads (w : World) (l : List Int) (k : Int) (e : Ending) (w' : World) : Prop := ∃ a n c, e = .returned (.tuple #[.slice a n c, .int .i64 k]) ∧ IsB w' a n l ∧ Below w.heap.size w w'
theorem reads (off n : Int) (h0 : 0 ≤ off) (h1 : off ≤ 18446744073709551615) (h2 : n ≤ 9223372036854775807) :
    ∃ l k, (∀ w, Calls Tryz.prog 151 #[.int .u64 off, .int .i64 n] w (Reads w l k)) ∧ (∀ w, Calls Tryz.prog 124 #[.int .u64 off, .int .i64 n] w (Reads w l k)) := by
  have err : ∀ k w e w', ErrIs w k e w' → Reads w [] k e w' := by
    rintro k w e w' ⟨rfl, rfl⟩
    exact ⟨none, 0, 0, rfl, ⟨rfl, by simp, .inl ⟨rfl, rfl⟩⟩, Below.refl _ _⟩
  by_cases hn : n < 0
  · exact ⟨[], 1, fun w => (rom_read_neg off n hn w).mono (err 1 w), fun w => (ref_read_neg off n hn w).mono (err 1 w)⟩
  by_cases hb : 4096 < off ∨ 4096 - off < n
  · exact ⟨[], 6, fun w => (rom_read_bus off n (by omega) h2 h0 h1 hb w).mono (err 6 w), fun w => (ref_read_bus off n (by omega) h2 h0 h1 hb w).mono (err 6 w)⟩
  have ok : ∀ m l w e w', BytesOk w m l e w' → Reads w l 0 e w' := by
    rintro m l w e w' ⟨a, c, rfl, hb, hw⟩
    exact ⟨a, m, c, rfl, hb, hw⟩
  obtain ⟨o, rfl⟩ := Int.eq_ofNat_of_zero_le h0
  obtain ⟨m, rfl⟩ := Int.eq_ofNat_of_zero_le (show 0 ≤ n by omega)
  exact ⟨romL o m, 0, fun w => (rom_read o m (by omega) w).mono (ok _ _ _), fun w => (ref_read o m (by omega) w).mono (ok _ _ _)⟩
theorem isB_below {w w' : World} {a : Option Addr} {n : Nat} {l : List Int} (h : IsB w a n l) (hb : Below w.heap.size w w') : IsB w' a n l := by
  obtain ⟨h1, h2, h3⟩ := h
  refine ⟨h1, h2, h3.imp id ?_⟩
  rintro ⟨b, o, rfl, hc⟩
  refine ⟨b, o, rfl, fun i hi => ?_⟩
  rw [hb.cell (p := ⟨b, o + i, none⟩) (World.block_lt_of_cell? w _ (hc i hi))]
  exact hc i hi

theorem wf_u64 {a : Int} (h : (Lit.int .u64 a).wf = true) : 0 ≤ a ∧ a ≤ 18446744073709551615 := by simpa [Lit.wf, IntKind.min, IntKind.max, IntKind.signed, IntKind.bits] using h
theorem wf_i64 {a : Int} (h : (Lit.int .i64 a).wf = true) : -9223372036854775808 ≤ a ∧ a ≤ 9223372036854775807 := by simpa [Lit.wf, IntKind.min, IntKind.max, IntKind.signed, IntKind.bits] using h
end Go.Proofs.YtkogjjeoihnjpaaGreat
end
section
set_option linter.unusedVariables false
set_option linter.unusedSimpArgs false
namespace Go.Proofs.YtkogjjeoihnjpaaGreat
open Go.RowKit Sx
set_option maxRecDepth 100000
theorem RefAt.range {w : World} {p sb n : Nat} {hs : List Value} (h : RefAt w p sb n hs) : w.rangeAt p 2 hs := fun j v hv => by
  rw [blk_cell h.2 (2 + j)]
  simp only [List.getElem?_toArray]
  rw [show 2 + j = j + 1 + 1 by omega, List.getElem?_cons_succ, List.getElem?_cons_succ]
  exact hv
theorem rl_hartR {w : World} {p sb n : Nat} {h : List Int} (hm : RefAt w p sb n (cksV hartC h)) : (loadH (.pointer (some ⟨p, 2, none⟩))).run Tryz.prog w = .ok (.agg (hartA h)) w :=
  run_loadAt_mid (P := Tryz.prog) w p 2 43 (cksV hartC h) _ hm.range Tryz.underlying43 rfl (by rw [cksV_len]; kernel_rfl)
/-- a hart held against itself -/
def eqHart (x y : Value) : Sem Bool := Op.equalIn 10000 43 x y
theorem eh1 (x y : Value) : Op.equalIn 10000 43 x y = eqHart x y := rfl
theorem eh2 (x y : Value) : Op.equal 43 x y = eqHart x y := rfl
theorem run_eqHart {h : List Int} (hh : InB hartR h) (w : World) : (eqHart (.agg (hartA h)) (.agg (hartA h))).run Tryz.prog w = .ok true w := eq_hart hh w
attribute [local go_sem ↓] ld_hartM eh1 eh2
theorem isB_own2 {w : World} {base : Nat} {a : Option Addr} {n c : Nat} {l : List Int} (h : w.ownsRow base 5 1 (.slice a n c) n (l.map (Value.int .u8))) (hn : l.length = n) (hl : ∀ x ∈ l, 0 ≤ x ∧ x ≤ 255) : IsB w a n l := by
  obtain ⟨_, ⟨h1, h2⟩ | ⟨g, cap, cur, h1, _, hg, hn2, hcm, hcs, ht⟩⟩ := h
  · cases h1; exact ⟨hn, hl, .inl ⟨rfl, rfl⟩⟩
  · cases h1
    refine ⟨hn, hl, .inr ⟨g, 0, rfl, fun i hi => ?_⟩⟩
    show w.cell? ⟨g, 0 + i, none⟩ = _
    have hi' : i < l.length := by omega
    have : (cur.toList.take (n * 1))[i]? = some (.int .u8 (l.getD i 0)) := by rw [ht]; simp [List.getD, hi']
    rw [Nat.zero_add, blk_cell hg i, ← this, List.getElem?_take_of_lt (by omega), Array.getElem?_toList]
theorem eqB_self (l : List Int) : eqB l l = true := by unfold eqB; simp
theorem bytes_ctL (ct : Nat → Nat) (n : Nat) : bytesAt ct 0 n = ctL ct 0 n := by
  unfold bytesAt ctL; rfl
set_option maxHeartbeats 8000000 in
theorem both_alike {W wr : World} {N q p b mq sb : Nat} {S : Nat → Prop} {h : List Int} {ct : Nat → Nat} (k : Both W wr N q p b S mq sb h h ct ct) (hh : InB hartR h) :
    Calls Tryz.prog 26 #[.pointer (some ⟨q, 0, none⟩)] wr fun e w' => e = .returned (.bool true) ∧ Below wr.heap.size wr w' := by
  have HR := Lib.hid (isa_ram k.mach k.ram)
  have HEQ : Hid (∀ w, (eqHart (.agg (cksV hartC h).toArray) (.agg (hartA h))).run Tryz.prog w = .ok true w) := fun w => run_eqHart hh w
  have c0 := blk_cell k.pair 0
  have c1 := blk_cell k.pair 1
  simp only [List.getElem?_toArray, List.getElem?_cons_succ, List.getElem?_cons_zero] at c0 c1
  have HK := Lib.hid k
  clear k hh
  go_enter Tryz.func26, Tryz.ntmps26
  go_wp2_with fail
  refine HR.out.mono ?_
  rintro e w1 ⟨rb, S', rfl, hr1, hr2, hb1⟩
  have HK1 := Lib.hid (HK.out.on hb1)
  have HR1 := Lib.hid hr1
  have HB1 := Lib.hid hb1
  clear hr1 hr2 hb1 c0 c1
  go_wp2_with fail
  refine wp_region_held_drew (S := fun wq => Below w1.heap.size w1 wq) (by kernel_rfl) (Below.refl _ _).drew (fun hH => ?_)
  refine wpAnyH_take (i := 0) (oi := ⟨some 11, _, _, _, _, _⟩) (v := ?_) rfl (by kernel_rfl) (by kernel_rfl) (by kernel_rfl) (fun _ _ _ h => h) (Or.inl ⟨by kernel_rfl, ?_⟩) hH ?_
  rotate_left 1
  · intro wq hq; have kq := HK1.out.on hq; have r0 := blk_cell kq.pair 0; have r1 := blk_cell kq.pair 1; have r2 := rl_hartR kq.ref; have heq := HEQ.out wq; simp only [List.getElem?_toArray, List.getElem?_cons_succ, List.getElem?_cons_zero] at r0 r1; clear kq; first | (go_simp; done) | (go_simp; with_reducible rfl)
  simp only [Act.put, List.setIfInBounds_toArray, List.set_cons_zero, List.set_cons_succ]
  refine wpAnyH_take (i := 1) (oi := ⟨some 12, _, _, _, _, _⟩) (v := ?_) rfl (by kernel_rfl) (by kernel_rfl) (by kernel_rfl) (fun _ _ _ h => h) (Or.inl ⟨by kernel_rfl, ?_⟩) hH ?_
  rotate_left 1
  · intro wq hq; have kq := HK1.out.on hq; have r0 := blk_cell kq.pair 0; have r1 := blk_cell kq.pair 1; have r2 := rl_hartR kq.ref; have heq := HEQ.out wq; simp only [List.getElem?_toArray, List.getElem?_cons_succ, List.getElem?_cons_zero] at r0 r1; clear kq; first | (go_simp; done) | (go_simp; with_reducible rfl)
  simp only [Act.put, List.setIfInBounds_toArray, List.set_cons_zero, List.set_cons_succ]
  refine wpAnyH_take (i := 2) (oi := ⟨some 13, _, _, _, _, _⟩) (v := ?_) rfl (by kernel_rfl) (by kernel_rfl) (by kernel_rfl) (fun _ _ _ h => h) (Or.inl ⟨by kernel_rfl, ?_⟩) hH ?_
  rotate_left 1
  · intro wq hq; have kq := HK1.out.on hq; have r0 := blk_cell kq.pair 0; have r1 := blk_cell kq.pair 1; have r2 := rl_hartR kq.ref; have heq := HEQ.out wq; simp only [List.getElem?_toArray, List.getElem?_cons_succ, List.getElem?_cons_zero] at r0 r1; clear kq; first | (go_simp; done) | (go_simp; with_reducible rfl)
  simp only [Act.put, List.setIfInBounds_toArray, List.set_cons_zero, List.set_cons_succ]
  refine wpAnyH_take (i := 3) (oi := ⟨some 14, _, _, _, _, _⟩) (v := ?_) rfl (by kernel_rfl) (by kernel_rfl) (by kernel_rfl) (fun _ _ _ h => h) (Or.inl ⟨by kernel_rfl, ?_⟩) hH ?_
  rotate_left 1
  · intro wq hq; have kq := HK1.out.on hq; have r0 := blk_cell kq.pair 0; have r1 := blk_cell kq.pair 1; have r2 := rl_hartR kq.ref; have heq := HEQ.out wq; simp only [List.getElem?_toArray, List.getElem?_cons_succ, List.getElem?_cons_zero] at r0 r1; clear kq; first | (go_simp; done) | (go_simp; with_reducible rfl)
  simp only [Act.put, List.setIfInBounds_toArray, List.set_cons_zero, List.set_cons_succ]
  refine wpAnyH_take (i := 4) (oi := ⟨some 15, _, _, _, _, _⟩) (v := ?_) rfl (by kernel_rfl) (by kernel_rfl) (by kernel_rfl) (fun _ _ _ h => h) (Or.inl ⟨by kernel_rfl, ?_⟩) hH ?_
  rotate_left 1
  · intro wq hq; have kq := HK1.out.on hq; have r0 := blk_cell kq.pair 0; have r1 := blk_cell kq.pair 1; have r2 := rl_hartR kq.ref; have heq := HEQ.out wq; simp only [List.getElem?_toArray, List.getElem?_cons_succ, List.getElem?_cons_zero] at r0 r1; clear kq; first | (go_simp; done) | (go_simp; with_reducible rfl)
  simp only [Act.put, List.setIfInBounds_toArray, List.set_cons_zero, List.set_cons_succ]
  refine wpAnyH_take (i := 5) (oi := ⟨some 16, _, _, _, _, _⟩) (v := ?_) rfl (by kernel_rfl) (by kernel_rfl) (by kernel_rfl) (fun _ _ _ h => h) (Or.inl ⟨by kernel_rfl, ?_⟩) hH ?_
  rotate_left 1
  · intro wq hq; have kq := HK1.out.on hq; have r0 := blk_cell kq.pair 0; have r1 := blk_cell kq.pair 1; have r2 := rl_hartR kq.ref; have heq := HEQ.out wq; simp only [List.getElem?_toArray, List.getElem?_cons_succ, List.getElem?_cons_zero] at r0 r1; clear kq; first | (go_simp; done) | (go_simp; with_reducible rfl)
  simp only [Act.put, List.setIfInBounds_toArray, List.set_cons_zero, List.set_cons_succ]
  refine wpAnyH_take (i := 6) (oi := ⟨some 17, _, _, _, _, _⟩) (v := ?_) rfl (by kernel_rfl) (by kernel_rfl) (by kernel_rfl) (fun _ _ _ h => h) (Or.inl ⟨by kernel_rfl, ?_⟩) hH ?_
  rotate_left 1
  · intro wq hq; have kq := HK1.out.on hq; have r0 := blk_cell kq.pair 0; have r1 := blk_cell kq.pair 1; have r2 := rl_hartR kq.ref; have heq := HEQ.out wq; simp only [List.getElem?_toArray, List.getElem?_cons_succ, List.getElem?_cons_zero] at r0 r1; clear kq; first | (go_simp; done) | (go_simp; with_reducible rfl)
  simp only [Act.put, List.setIfInBounds_toArray, List.set_cons_zero, List.set_cons_succ]
  refine wpAnyH_take (i := 8) (oi := ⟨some 19, _, _, _, _, _⟩) (v := ?_) rfl (by kernel_rfl) (by kernel_rfl) (by kernel_rfl) (fun _ _ _ h => h) (Or.inl ⟨by kernel_rfl, ?_⟩) hH ?_
  rotate_left 1
  · intro wq hq; have kq := HK1.out.on hq; have r0 := blk_cell kq.pair 0; have r1 := blk_cell kq.pair 1; have r2 := rl_hartR kq.ref; have heq := HEQ.out wq; simp only [List.getElem?_toArray, List.getElem?_cons_succ, List.getElem?_cons_zero] at r0 r1; clear kq; first | (go_simp; done) | (go_simp; with_reducible rfl)
  simp only [Act.put, List.setIfInBounds_toArray, List.set_cons_zero, List.set_cons_succ]
  refine wpAnyH_take (i := 9) (oi := ⟨some 20, _, _, _, _, _⟩) (v := ?_) rfl (by kernel_rfl) (by kernel_rfl) (by kernel_rfl) (fun _ _ _ h => h) (Or.inl ⟨by kernel_rfl, ?_⟩) hH ?_
  rotate_left 1
  · intro wq hq; have kq := HK1.out.on hq; have r0 := blk_cell kq.pair 0; have r1 := blk_cell kq.pair 1; have r2 := rl_hartR kq.ref; have heq := HEQ.out wq; simp only [List.getElem?_toArray, List.getElem?_cons_succ, List.getElem?_cons_zero] at r0 r1; clear kq; first | (go_simp; done) | (go_simp; with_reducible rfl)
  simp only [Act.put, List.setIfInBounds_toArray, List.set_cons_zero, List.set_cons_succ]
  refine wpAnyH_take (i := 10) (oi := ⟨some 21, _, _, _, _, _⟩) (v := ?_) rfl (by kernel_rfl) (by kernel_rfl) (by kernel_rfl) (fun _ _ _ h => h) (Or.inl ⟨by kernel_rfl, ?_⟩) hH ?_
  rotate_left 1
  · intro wq hq; have kq := HK1.out.on hq; have r0 := blk_cell kq.pair 0; have r1 := blk_cell kq.pair 1; have r2 := rl_hartR kq.ref; have heq := HEQ.out wq; simp only [List.getElem?_toArray, List.getElem?_cons_succ, List.getElem?_cons_zero] at r0 r1; clear kq; first | (go_simp; done) | (go_simp; with_reducible rfl)
  simp only [Act.put, List.setIfInBounds_toArray, List.set_cons_zero, List.set_cons_succ]
  refine wpAnyH_take (i := 11) (oi := ⟨some 22, _, _, _, _, _⟩) (v := ?_) rfl (by kernel_rfl) (by kernel_rfl) (by kernel_rfl) (fun _ _ _ h => h) (Or.inl ⟨by kernel_rfl, ?_⟩) hH ?_
  rotate_left 1
  · intro wq hq; have kq := HK1.out.on hq; have r0 := blk_cell kq.pair 0; have r1 := blk_cell kq.pair 1; have r2 := rl_hartR kq.ref; have heq := HEQ.out wq; simp only [List.getElem?_toArray, List.getElem?_cons_succ, List.getElem?_cons_zero] at r0 r1; clear kq; first | (go_simp; done) | (go_simp; with_reducible rfl)
  simp only [Act.put, List.setIfInBounds_toArray, List.set_cons_zero, List.set_cons_succ]
  refine wpAnyH_take (i := 12) (oi := ⟨some 23, _, _, _, _, _⟩) (v := ?_) rfl (by kernel_rfl) (by kernel_rfl) (by kernel_rfl) (fun _ _ _ h => h) (Or.inl ⟨by kernel_rfl, ?_⟩) hH ?_
  rotate_left 1
  · intro wq hq; have kq := HK1.out.on hq; have r0 := blk_cell kq.pair 0; have r1 := blk_cell kq.pair 1; have r2 := rl_hartR kq.ref; have heq := HEQ.out wq; simp only [List.getElem?_toArray, List.getElem?_cons_succ, List.getElem?_cons_zero] at r0 r1; clear kq; first | (go_simp; done) | (go_simp; with_reducible rfl)
  simp only [Act.put, List.setIfInBounds_toArray, List.set_cons_zero, List.set_cons_succ]
  refine wpAnyH_take (i := 13) (oi := ⟨some 24, _, _, _, _, _⟩) (v := ?_) rfl (by kernel_rfl) (by kernel_rfl) (by kernel_rfl) (fun _ _ _ h => h) (Or.inl ⟨by kernel_rfl, ?_⟩) hH ?_
  rotate_left 1
  · intro wq hq; have kq := HK1.out.on hq; have r0 := blk_cell kq.pair 0; have r1 := blk_cell kq.pair 1; have r2 := rl_hartR kq.ref; have heq := HEQ.out wq; simp only [List.getElem?_toArray, List.getElem?_cons_succ, List.getElem?_cons_zero] at r0 r1; clear kq; first | (go_simp; done) | (go_simp; with_reducible rfl)
  simp only [Act.put, List.setIfInBounds_toArray, List.set_cons_zero, List.set_cons_succ]
  refine wpAnyH_take (i := 14) (oi := ⟨some 25, _, _, _, _, _⟩) (v := ?_) rfl (by kernel_rfl) (by kernel_rfl) (by kernel_rfl) (fun _ _ _ h => h) (Or.inl ⟨by kernel_rfl, ?_⟩) hH ?_
  rotate_left 1
  · intro wq hq; have kq := HK1.out.on hq; have r0 := blk_cell kq.pair 0; have r1 := blk_cell kq.pair 1; have r2 := rl_hartR kq.ref; have heq := HEQ.out wq; simp only [List.getElem?_toArray, List.getElem?_cons_succ, List.getElem?_cons_zero] at r0 r1; clear kq; first | (go_simp; done) | (go_simp; with_reducible rfl)
  simp only [Act.put, List.setIfInBounds_toArray, List.set_cons_zero, List.set_cons_succ]
  refine wpAnyH_ready (rs := [7]) (by kernel_rfl) (by simp) (AllReadyH.cons (o := ⟨some 18, _, _, _, _, _⟩) rfl (fun K hK => ?_) AllReadyH.nil)
  go_simp
  refine (mach_hart (HK1.out.on (by first | exact (Below.refl _ _).drew)).mach).mono ?_
  rintro e w2 ⟨rfl, hb2⟩
  have HB2 := Lib.hid ((Below.refl w1.heap.size w1).drew.trans hb2)
  clear hb2
  go_wp2_with fail
  refine hK.out _ _ HB2.out (fun hH => ?_)
  clear hK K
  try simp only [Act.put, List.setIfInBounds_toArray, List.set_cons_zero, List.set_cons_succ]
  refine wpAnyH_take (i := 15) (oi := ⟨some 26, _, _, _, _, _⟩) (v := ?_) rfl (by kernel_rfl) (by kernel_rfl) (by kernel_rfl) (fun _ _ _ h => h) (Or.inl ⟨by kernel_rfl, ?_⟩) hH ?_
  rotate_left 1
  · intro wq hq; have kq := HK1.out.on hq; have r0 := blk_cell kq.pair 0; have r1 := blk_cell kq.pair 1; have r2 := rl_hartR kq.ref; have heq := HEQ.out wq; simp only [List.getElem?_toArray, List.getElem?_cons_succ, List.getElem?_cons_zero] at r0 r1; clear kq; first | (go_simp; done) | (go_simp; with_reducible rfl)
  simp only [Act.put, List.setIfInBounds_toArray, List.set_cons_zero, List.set_cons_succ]
  refine wpAnyH_take (i := 16) (oi := ⟨some 27, _, _, _, _, _⟩) (v := ?_) rfl (by kernel_rfl) (by kernel_rfl) (by kernel_rfl) (fun _ _ _ h => h) (Or.inl ⟨by kernel_rfl, ?_⟩) hH ?_
  rotate_left 1
  · intro wq hq; have kq := HK1.out.on hq; have r0 := blk_cell kq.pair 0; have r1 := blk_cell kq.pair 1; have r2 := rl_hartR kq.ref; have heq := HEQ.out wq; simp only [List.getElem?_toArray, List.getElem?_cons_succ, List.getElem?_cons_zero] at r0 r1; clear kq; first | (go_simp; done) | (go_simp; with_reducible rfl)
  simp only [Act.put, List.setIfInBounds_toArray, List.set_cons_zero, List.set_cons_succ]
  refine wpAnyH_done (by kernel_rfl) ?_ _
  clear hH
  have HK2 := Lib.hid (HK1.out.on HB2.out)
  have c0 := blk_cell HK2.out.pair 0
  have c1 := blk_cell HK2.out.pair 1
  have cb := HK2.out.ref.bytes
  simp only [List.getElem?_toArray, List.getElem?_cons_succ, List.getElem?_cons_zero] at c0 c1
  have hN := HK2.out.mem.2.2
  have HRD := Lib.hid (ram_read_ok (HR1.out.below HB2.out) 2147483648 (by decide) (by decide) (N * 4096) (by simp only [ramAll, isRam, Bool.or_eq_true, Bool.and_eq_true, decide_eq_true_eq]; omega))
  rw [show ((2147483648 : Int) - 2147483648).toNat = 0 from rfl, bytes_ctL] at HRD
  have HNN : Hid (((N * 4096 : Nat) : Int) = (N : Int) * 4096) := by show _ = _; omega
  clear hN
  go_wp2_with fail
  refine (show Calls _ _ _ _ _ from (by first | exact HRD.out | (rw [HNN.out] at HRD; exact HRD.out))).mono ?_
  rintro e w3 ⟨v, rfl, hown, hb3⟩
  have HK3 := Lib.hid (HK2.out.on hb3)
  have HB3 := Lib.hid (HB1.out.trans ((HB2.out.trans (hb3.mono HB2.out.size)).mono HB1.out.size))
  obtain ⟨a, c, rfl⟩ : ∃ a c, v = Value.slice a (N * 4096) c := by
    obtain ⟨_, ⟨h1, h2⟩ | ⟨g, cap, cur, h1, _⟩⟩ := hown
    · have := HK2.out.mem.2.2
      omega
    · exact ⟨_, _, h1⟩
  have HS : Hid (∀ wq, Below w3.heap.size w3 wq → Calls Tryz.prog 58 #[.slice a (N * 4096) c, .slice (some ⟨sb, 0, none⟩) (N * 4096) (N * 4096)] wq fun e w' => e = .returned (.bool true) ∧ wq = w') := fun wq hq => by
    have k1 : IsB w3 a (N * 4096) (ctL ct 0 (N * 4096)) := isB_own2 hown (by simp [ctL]) (fun x hx => by
      simp only [ctL, List.mem_map, List.mem_range] at hx
      obtain ⟨i, _, rfl⟩ := hx
      have := HK2.out.mem.2.1 (0 + i)
      omega)
    have k2 : IsB w3 (some ⟨sb, 0, none⟩) (N * 4096) (ctL ct 0 (N * 4096)) := HK3.out.mem.isB 0 (N * 4096) (by omega)
    have := same_bytes a (some ⟨sb, 0, none⟩) (N * 4096) (N * 4096) c (N * 4096) _ _ wq (isB_below k1 hq) (isB_below k2 hq)
    rw [eqB_self] at this
    exact this
  clear hb3 hown c0 c1 cb
  have c0 := blk_cell HK3.out.pair 0
  have c1 := blk_cell HK3.out.pair 1
  have cb := HK3.out.ref.bytes
  simp only [List.getElem?_toArray, List.getElem?_cons_succ, List.getElem?_cons_zero] at c0 c1
  go_wp2_with fail
  refine (HS.out _ (by first | exact Below.refl _ _ | exact (Below.refl _ _).drew)).mono ?_
  rintro e w4 ⟨rfl, rfl⟩
  go_wp2_with fail
  try go_ret
  exact ⟨rfl, by first | exact HB3.out | exact HB3.out.drew⟩
end Go.Proofs.YtkogjjeoihnjpaaGreat
end
section
set_option linter.unusedVariables false
namespace Go.Proofs.YtkogjjeoihnjpaaGreat
open Go.ChangeShapes Go.WideShapes Go.RowKit Go.Deep
section
variable {H : Type} {enc : TypeId × Value → H} {P : Program} {W : World}
theorem weights_mem_all {e : TypeId} : ∀ {l : List (DataW H)} {d : DataW H}, d ∈ l → ∀ n ∈ d.weights P e, n ∈ DataW.weightsAll P e l
  | d :: r, _, .head _, n, hn => by simp only [DataW.weightsAll, List.mem_append]; exact .inl hn
  | d' :: r, d, .tail _ h, n, hn => by simp only [DataW.weightsAll, List.mem_append]; exact .inr (weights_mem_all h n hn)
/-- how great each part of a datum may be -/
def Light (P : Program) (t : TypeId) (d : DataW H) : Prop := ∀ n ∈ d.weights P t, n ≤ reachBytes
theorem light_arg {ts : List TypeId} {ds : List (DataW H)} (h : (DataW.weightsEach P ts ds).all (· ≤ reachBytes) = true) {j : Nat} {t : TypeId} {d : DataW H} (ht : ts[j]? = some t) (hd : ds[j]? = some d) : Light P t d := fun n hn => by
  have := List.all_eq_true.1 h n (DataW.weights_mem_each ht hd n hn)
  simpa using this
theorem Light.elem {t e : TypeId} (hu : P.underlying t = some (.slice e)) {elems spare : List (DataW H)} (h : Light P t (.slice elems spare)) {d : DataW H} (hd : d ∈ elems ∨ d ∈ spare) : Light P e d := fun n hn => by
  refine h n ?_
  simp only [DataW.weights, hu, List.mem_cons, List.mem_append]
  exact .inr (hd.imp (fun h => weights_mem_all h n hn) (fun h => weights_mem_all h n hn))
theorem Light.field {t : TypeId} {fs : Array Field} (hu : P.underlying t = some (.struct fs)) {parts : List (DataW H)} (h : Light P t (.agg parts)) {j : Nat} {f : Field} {d : DataW H} (hf : fs[j]? = some f) (hd : parts[j]? = some d) : Light P f.type d := fun n hn => by
  refine h n ?_
  simp only [DataW.weights, hu]
  exact DataW.weights_mem_each (j := j) (t := f.type) (by simp [hf]) hd n hn
theorem Light.slice {t e : TypeId} (hu : P.underlying t = some (.slice e)) {elems spare : List (DataW H)} (h : Light P t (.slice elems spare)) {b : Nat} (hb : P.bytesOf e = b) : (elems.length + spare.length) * b ≤ 140737488351232 := by
  have := h ((elems.length + spare.length) * P.bytesOf e) (by simp [DataW.weights, hu])
  rw [hb] at this
  exact this
/-- one field's own reading -/
def FieldAt (enc : TypeId × Value → H) (P : Program) (W : World) (t : TypeId) (v : Value) : Prop := ∃ n y, DataW.trod enc P W 0 (fun _ => true) true n t [v] = some y ∧ Light P t y.1
/-- the slice's elements: so many values each, each field readable -/
theorem arg_fields {t e : TypeId} {fs : Array Field} (ht : P.underlying t = some (.slice e)) (he : P.underlying e = some (.struct fs)) (hone : oneCellFields P fs = true) (hC : P.cellsOf e = fs.size)
    {a : Option Addr} {len cap : Nat} {d : DataW H} {p : List MemPlace} {b0 : Nat} (hv : Value.okWide P W .any b0 t (.slice a len cap)) (h : DataW.Trod enc P W 0 (fun _ => true) true t (.slice a len cap) d p) (hl : Light P t d) :
    len ≤ cap ∧ cap ≤ 9223372036854775807 ∧ ∀ i, i < cap → ∃ vs : List Value, vs.length = fs.size ∧ (∃ b o, a = some ⟨b, o, none⟩ ∧ b < W.heap.size ∧ (0 < fs.size → W.rangeAt b (o + i * fs.size) vs)) ∧ ∀ (j : Nat) (f : Field), fs[j]? = some f → ∃ v, vs[j]? = some v ∧ FieldAt enc P W f.type v := by
  have hform := slice_form ht hv
  obtain ⟨fuel, hf⟩ := h
  rcases open_slice ht hf with ⟨hcs, hx⟩ | ⟨ad, len', cap', m, n, D, Pl, hcs, _, hle, hm, hmm, hx, hi⟩
  · simp [Value.cells] at hcs
    obtain ⟨rfl, rfl, rfl⟩ := hcs
    exact ⟨Nat.le_refl _, by omega, fun i h => absurd h (by omega)⟩
  · simp [Value.cells] at hcs
    obtain ⟨rfl, rfl, rfl⟩ := hcs
    simp only [if_true] at hmm
    subst hmm
    simp only [Prod.mk.injEq] at hx
    refine ⟨hle, hm, fun i him => ?_⟩
    obtain ⟨cs', hc, ht'⟩ := hi i him
    rw [hC] at hc
    obtain ⟨ys, n', hn', hy, hlen, hyl, hg⟩ := DataW.trod_struct he ht'
    obtain ⟨_, hcl, hat⟩ := World.cells?_some hc
    simp only [Prod.mk.injEq] at hy
    have hD : Light P e (D i) := by
      rw [hx.1] at hl
      refine hl.elem ht ?_
      by_cases h1 : i < len
      · exact .inl (List.mem_map.2 ⟨i, List.mem_range.2 h1, rfl⟩)
      · exact .inr (List.mem_map.2 ⟨i - len, List.mem_range.2 (by omega), by rw [show len + (i - len) = i by omega]⟩)
    refine ⟨cs', hcl, ?_, fun j f hj => ?_⟩
    · rcases hform with h0 | ⟨b, o, h1, h2⟩
      · cases h0
      · refine ⟨b, o, h1, h2, fun _ j v hj => ?_⟩
        cases h1
        have hjl : j < fs.size := by have := (List.getElem?_eq_some_iff.1 hj).1; omega
        have h3 := hat j hjl
        rw [Addr.add_mid, Addr.add_mid] at h3
        rw [h3]
        exact hj
    · obtain ⟨ho, hk⟩ := hone_of hone j f hj
      have hjl : j < fs.size := (Array.getElem?_eq_some_iff.1 hj).1
      have hvj : cs'[j]? = some (cs'[j]'(by omega)) := List.getElem?_eq_getElem (by omega)
      have h1 := hg j f hj
      rw [ho, hk] at h1
      have hone' : (cs'.drop j).take 1 = [cs'[j]'(by omega)] := by
        rw [List.drop_eq_getElem_cons (by omega)]
        rfl
      rw [hone'] at h1
      have hys : ys[j]? = some (ys[j]'(by omega)) := List.getElem?_eq_getElem (by omega)
      refine ⟨_, hvj, n', _, h1.trans hys, ?_⟩
      rw [hy.1] at hD
      exact hD.field he hj (by simp [hys])
theorem FieldAt.int {t : TypeId} {k : IntKind} (ht : P.underlying t = some (.int k)) {v : Value} (h : FieldAt enc P W t v) : ∃ x, v = .int k x ∧ (Lit.int k x).wf = true := by
  obtain ⟨n, y, h, _⟩ := h
  obtain ⟨x, h1, _, h3⟩ := DataW.trod_int ht h
  exact ⟨x, by simpa using h1, h3⟩
theorem FieldAt.bool {t : TypeId} (ht : P.underlying t = some .bool) {v : Value} (h : FieldAt enc P W t v) : ∃ x, v = .bool x := by
  obtain ⟨n, y, h, _⟩ := h
  obtain ⟨x, h1, _⟩ := DataW.trod_bool ht h
  exact ⟨x, by simpa using h1⟩
/-- an inner slice -/
structure InRow (W : World) (a : Option Addr) (len cap : Nat) (V : Nat → Value) : Prop where
  le : len ≤ cap
  nil : a = none → cap = 0
  row : IsRow W a cap V
  big : cap ≤ 140737488351232
theorem FieldAt.ints {t e : TypeId} {k : IntKind} (ht : P.underlying t = some (.slice e)) (he : P.underlying e = some (.int k)) (hc : P.cellsOf e = 1) {b : Nat} (hb : P.bytesOf e = b) (hb1 : 1 ≤ b) {v : Value} (h : FieldAt enc P W t v) :
    ∃ (a : Option Addr) (len cap : Nat) (z : Nat → Int), v = .slice a len cap ∧ (∀ i, (Lit.int k (z i)).wf = true) ∧ InRow W a len cap (fun i => .int k (z i)) := by
  obtain ⟨n, y, h, hl⟩ := h
  have hw0 : (Lit.int k 0).wf = true := by cases k <;> decide
  rcases open_ints ht he hc h with ⟨hcs, hx⟩ | ⟨ad, len, cap, zs, hcs, _, hle, hm, hz, hx, hcell, hwz⟩
  · simp at hcs
    subst hcs
    exact ⟨none, 0, 0, fun _ => 0, rfl, fun _ => hw0, ⟨Nat.le_refl _, fun _ => rfl, fun h => absurd h (by omega), by omega⟩⟩
  · simp at hcs
    subst hcs
    simp only [if_true] at hz
    refine ⟨some ad, len, cap, fun i => zs.getD i 0, rfl, fun i => ?_, ⟨hle, (fun h => nomatch h), row_of_cells fun i hi => hcell i (by omega), ?_⟩⟩
    · by_cases hi : i < zs.length
      · have e : zs.getD i 0 = zs[i] := by simp [List.getD, hi]
        simp only [e]; exact hwz _ (List.getElem_mem hi)
      · have e : zs.getD i 0 = 0 := by simp [List.getD, hi]
        simp only [e]; exact hw0
    · rw [show y = _ from hx] at hl
      have := hl.slice ht hb
      simp [lits] at this
      have h2 : cap * 1 ≤ (min len zs.length + (zs.length - len)) * b := Nat.mul_le_mul (by omega) hb1
      omega
theorem FieldAt.bools {t e : TypeId} (ht : P.underlying t = some (.slice e)) (he : P.underlying e = some .bool) (hc : P.cellsOf e = 1) {b : Nat} (hb : P.bytesOf e = b) (hb1 : 1 ≤ b) {v : Value} (h : FieldAt enc P W t v) :
    ∃ (a : Option Addr) (len cap : Nat) (z : Nat → Bool), v = .slice a len cap ∧ InRow W a len cap (fun i => .bool (z i)) := by
  obtain ⟨n, y, h, hl⟩ := h
  rcases open_bools ht he hc h with ⟨hcs, hx⟩ | ⟨ad, len, cap, z, hcs, _, hle, hm, hx, hcell⟩
  · simp at hcs
    subst hcs
    exact ⟨none, 0, 0, fun _ => false, rfl, ⟨Nat.le_refl _, fun _ => rfl, fun h => absurd h (by omega), by omega⟩⟩
  · simp at hcs
    subst hcs
    refine ⟨some ad, len, cap, z, rfl, ⟨hle, (fun h => nomatch h), row_of_cells fun i hi => hcell i ?_, ?_⟩⟩
    · simpa using hi
    · rw [show y = _ from hx] at hl
      have := hl.slice ht hb
      simp at this
      have h2 : cap * 1 ≤ (len + (cap - len)) * b := Nat.mul_le_mul (by omega) hb1
      omega
end
end Go.Proofs.YtkogjjeoihnjpaaGreat
end
section
set_option linter.unusedVariables false
set_option linter.unusedSimpArgs false
namespace Go.Proofs.YtkogjjeoihnjpaaGreat
open Go.RowKit
theorem wf_u8' {a : Int} (h : (Lit.int .u8 a).wf = true) : 0 ≤ a ∧ a ≤ 255 := by simpa [Lit.wf, IntKind.min, IntKind.max, IntKind.signed, IntKind.bits] using h
theorem wf_u64' {a : Int} (h : (Lit.int .u64 a).wf = true) : 0 ≤ a ∧ a ≤ 18446744073709551615 := by simpa [Lit.wf, IntKind.min, IntKind.max, IntKind.signed, IntKind.bits] using h
theorem wf_i64' {a : Int} (h : (Lit.int .i64 a).wf = true) : -9223372036854775808 ≤ a ∧ a ≤ 9223372036854775807 := by simpa [Lit.wf, IntKind.min, IntKind.max, IntKind.signed, IntKind.bits] using h
/-- the first n numbers of z -/
def listOf (z : Nat → Int) (n : Nat) : List Int := (List.range n).map z
theorem listOf_len (z : Nat → Int) (n : Nat) : (listOf z n).length = n := by simp [listOf]
theorem listOf_getD (z : Nat → Int) (n i : Nat) (h : i < n) : (listOf z n).getD i 0 = z i := by simp [listOf, List.getD, h]
theorem argB {w : World} {a : Option Addr} {len cap : Nat} {z : Nat → Int} (h : ArgRow w a len cap (fun i => .int .u8 (z i))) (hz : ∀ i, (Lit.int .u8 (z i)).wf = true) {n : Nat} (hn : n ≤ cap) : IsB w a n (listOf z n) := by
  refine ⟨listOf_len _ _, fun x hx => ?_, ?_⟩
  · simp only [listOf, List.mem_map] at hx
    obtain ⟨i, _, rfl⟩ := hx
    exact wf_u8' (hz i)
  · rcases h.form with h0 | ⟨b, o, rfl, hb⟩
    · exact .inl ⟨h0, by have := h.nil h0; omega⟩
    · right
      refine ⟨b, o, rfl, fun i hi => ?_⟩
      obtain ⟨b', o', h1, _, h3⟩ := h.row (by omega)
      cases h1
      rw [h3 i (by omega), listOf_getD _ _ _ hi]
/-- an argument's cells lie in none of the blocks that are made since -/
theorem ArgRow.apart {w : World} {a : Option Addr} {len cap : Nat} {V : Nat → Value} (h : ArgRow w a len cap V) {S : Nat → Prop} (hS : ∀ g, S g → w.heap.size ≤ g) : Apart S a := by
  rintro b o s rfl hb
  rcases h.form with h0 | ⟨b', o', h1, h2⟩
  · cases h0
  · cases h1
    have := hS b hb
    omega
end Go.Proofs.YtkogjjeoihnjpaaGreat
end
section
set_option linter.unusedVariables false
set_option linter.unusedSimpArgs false
namespace Go.Proofs.YtkogjjeoihnjpaaGreat
open Go.ChangeShapes Go.WideShapes Go.ChangeAt Go.RowKit Sx
set_option maxRecDepth 100000
def ckR : CK → Int × Int
  | .i k => (kLo k, kHi k)
  | .b => (0, 1)
section
variable (P : Program)
def flatFs (ft : TypeId → Option (List CK)) : List Field → Nat → Option (List CK)
  | [], _ => some []
  | f :: r, o => if f.offset = o then (match ft f.type with
    | some ks => if ks.length = P.cellsOf f.type then (match flatFs ft r (o + ks.length) with
      | some rest => some (ks ++ rest)
      | none => none) else none
    | none => none) else none
def flatT : Nat → TypeId → Option (List CK)
  | 0, _ => none
  | d + 1, t => match P.underlying t with
    | some (.int k) => some [.i k]
    | some .bool => some [.b]
    | some (.struct fs) => flatFs P (flatT d) fs.toList 0
    | some (.array n e) => (match flatT d e with
      | some ks => if ks.length = P.cellsOf e then some (List.replicate n ks).flatten else none
      | none => none)
    | _ => none
end
theorem cksV_app : ∀ (a b : List CK) (l l' : List Int), l.length = a.length → cksV (a ++ b) (l ++ l') = cksV a l ++ cksV b l'
  | [], b, l, l', h => by
    have : l = [] := List.length_eq_zero_iff.1 h
    subst this; rfl
  | c :: a, b, [], l', h => by simp at h
  | c :: a, b, x :: l, l', h => by
    simp only [List.cons_append, cksV, List.headD_cons, List.tail_cons]
    rw [cksV_app a b l l' (by simpa using h)]
theorem inB_app {rs rs' : List (Int × Int)} {l l' : List Int} (h : InB rs l) (h' : InB rs' l') : InB (rs ++ rs') (l ++ l') := by
  refine ⟨by simp [h.1, h'.1], fun j q m hj hm => ?_⟩
  by_cases hl : j < rs.length
  · rw [List.getElem?_append_left hl] at hj
    rw [List.getElem?_append_left (by rw [h.1]; exact hl)] at hm
    exact h.2 j q m hj hm
  · rw [List.getElem?_append_right (by omega)] at hj
    rw [List.getElem?_append_right (by rw [h.1]; omega)] at hm
    rw [h.1] at hm
    exact h'.2 (j - rs.length) q m hj hm
theorem inB_one {l u n : Int} (h : l ≤ n ∧ n ≤ u) : InB [(l, u)] [n] := ⟨rfl, fun j r m hj hm => by
  cases j with
  | zero => simp at hj hm; subst hj; subst hm; exact h
  | succ j => simp at hj⟩
theorem wf_rng {k : IntKind} {n : Int} (h : (Lit.int k n).wf = true) : kLo k ≤ n ∧ n ≤ kHi k := by
  cases k <;> simpa [Lit.wf, IntKind.min, IntKind.max, IntKind.signed, IntKind.bits, kLo, kHi] using h
section
variable {P : Program} {H : Type} {enc : TypeId × Value → H} {w : World} {base : Nat}
theorem flat_ok : ∀ (d : Nat) {t : TypeId} {ks : List CK}, flatT P d t = some ks → P.cellsOf t = ks.length → ∀ {fuel : Nat} {cs : List Value} {x : DataW H × List MemPlace}, DataW.trod enc P w base (fun _ => true) true fuel t cs = some x → ∃ l, InB (ks.map ckR) l ∧ cs = cksV ks l
  | 0, t, ks, h, _, fuel, cs, x, hx => by simp [flatT] at h
  | d + 1, t, ks, h, hc, fuel, cs, x, hx => by
    have ih := @flat_ok d
    unfold flatT at h
    split at h
    · rename_i k hu
      cases h
      obtain ⟨n, rfl, _, hw⟩ := DataW.trod_int hu hx
      exact ⟨[n], inB_one (wf_rng hw), rfl⟩
    · rename_i hu
      cases h
      obtain ⟨b, rfl, _⟩ := DataW.trod_bool hu hx
      refine ⟨[if b then 1 else 0], inB_one (by cases b <;> simp), ?_⟩
      cases b <;> rfl
    · rename_i fs hu
      obtain ⟨ys, n, _, _, hlen, hyl, hg⟩ := DataW.trod_struct hu hx
      have key : ∀ (r : List Field) (o : Nat) (kss : List CK), flatFs P (flatT P d) r o = some kss → (∀ f ∈ r, ∃ y, DataW.trod enc P w base (fun _ => true) true n f.type ((cs.drop f.offset).take (P.cellsOf f.type)) = some y) → ∃ l, InB (kss.map ckR) l ∧ (cs.drop o).take kss.length = cksV kss l := by
        intro r
        induction r with
        | nil => intro o kss hk _; simp only [flatFs, Option.some.injEq] at hk; subst hk; exact ⟨[], ⟨rfl, fun j r m hj => by simp at hj⟩, by simp [cksV]⟩
        | cons f r ihr =>
          intro o kss hk hf
          unfold flatFs at hk
          split at hk
          · rename_i ho
            split at hk
            · rename_i k1 hk1
              split at hk
              · rename_i hl1
                split at hk
                · rename_i rest hrest
                  cases hk
                  obtain ⟨y, hy⟩ := hf f List.mem_cons_self
                  obtain ⟨l1, a1, a2⟩ := ih hk1 hl1.symm hy
                  obtain ⟨l2, b1, b2⟩ := ihr (o + k1.length) rest hrest fun g hg => hf g (List.mem_cons_of_mem _ hg)
                  have hll : l1.length = k1.length := by have := a1.1; simpa using this
                  refine ⟨l1 ++ l2, by rw [List.map_append]; exact inB_app a1 b1, ?_⟩
                  rw [cksV_app _ _ _ _ hll, ← a2, ← b2, ← hl1, ho, List.length_append, List.take_add, List.drop_drop]
                · cases hk
              · cases hk
            · cases hk
          · cases hk
      obtain ⟨l, a1, a2⟩ := key fs.toList 0 ks h fun f hf => by
        obtain ⟨i, hi⟩ := List.mem_iff_getElem?.1 hf
        have hi' : fs[i]? = some f := by rw [← Array.getElem?_toList]; exact hi
        have hlt : i < ys.length := by rw [hyl]; exact (Array.getElem?_eq_some_iff.1 hi').1
        exact ⟨ys[i], (hg i f hi').trans (List.getElem?_eq_getElem hlt)⟩
      refine ⟨l, a1, ?_⟩
      rw [← a2, List.drop_zero, List.take_of_length_le (by omega)]
    · rename_i m e hu
      split at h
      · rename_i k1 hk1
        split at h
        · rename_i hl1
          cases h
          obtain ⟨ys, n, _, _, hlen, hyl, hg⟩ := DataW.trod_array hu hx
          have key : ∀ j, j ≤ m → ∃ l, InB ((List.replicate j k1).flatten.map ckR) l ∧ cs.take (j * k1.length) = cksV (List.replicate j k1).flatten l := by
            intro j
            induction j with
            | zero => intro _; exact ⟨[], ⟨rfl, fun j r m hj => by simp at hj⟩, by simp [cksV]⟩
            | succ j ihj =>
              intro hj
              obtain ⟨l1, a1, a2⟩ := ihj (by omega)
              have hlt : j < ys.length := by omega
              have hy := (hg j (by omega)).trans (List.getElem?_eq_getElem hlt)
              rw [← hl1] at hy
              obtain ⟨l2, b1, b2⟩ := ih hk1 hl1.symm hy
              have hrep : (List.replicate (j + 1) k1).flatten = (List.replicate j k1).flatten ++ k1 := by
                rw [List.replicate_succ', List.flatten_append]; simp
              have hll : l1.length = (List.replicate j k1).flatten.length := by have := a1.1; simpa using this
              refine ⟨l1 ++ l2, by rw [hrep, List.map_append]; exact inB_app a1 b1, ?_⟩
              rw [hrep, cksV_app _ _ _ _ hll, ← a2, ← b2, Nat.succ_mul, List.take_add]
          obtain ⟨l, a1, a2⟩ := key m (Nat.le_refl _)
          refine ⟨l, a1, ?_⟩
          rw [← a2, List.take_of_length_le]
          rw [hlen, hc]
          simp
        · cases h
      · cases h
    · cases h
end
end Go.Proofs.YtkogjjeoihnjpaaGreat
end
section
set_option linter.unusedVariables false
namespace Go.Proofs.YtkogjjeoihnjpaaGreat
open Go.ChangeShapes Go.WideShapes Go.ChangeAt Go.RowKit Go.Deep Sx
set_option maxRecDepth 100000
/-- the numbers of each of the first m -/
def FlatRow (W : World) (a : Option Addr) (m : Nat) (ks : List CK) (evs : Nat → List Int) : Prop := ∀ i, i < m → InB (ks.map ckR) (evs i) ∧ ∃ b o, a = some ⟨b, o, none⟩ ∧ b < W.heap.size ∧ W.rangeAt b (o + i * ks.length) (cksV ks (evs i))
section
variable {H : Type} {enc : TypeId × Value → H}
theorem arg_rows {TS T : TypeId} {ks : List CK} (ht : Tryz.prog.underlying TS = some (.slice T)) (hf : flatT Tryz.prog 10 T = some ks) (hC : Tryz.prog.cellsOf T = ks.length) {W : World} {a : Option Addr} {len cap : Nat} {d : DataW H} {p : List MemPlace} {b0 : Nat} (hv : Value.okWide Tryz.prog W .any b0 TS (.slice a len cap)) (h : DataW.Trod enc Tryz.prog W 0 (fun _ => true) true TS (.slice a len cap) d p) :
    len ≤ cap ∧ cap ≤ 9223372036854775807 ∧ ∃ evs, FlatRow W a cap ks evs := by
  have hform := slice_form ht hv
  obtain ⟨fuel, hfu⟩ := h
  rcases open_slice ht hfu with ⟨hcs, hx⟩ | ⟨ad, len', cap', m, n, D, Pl, hcs, _, hle, hm, hmm, hx, hi⟩
  · simp [Value.cells] at hcs
    obtain ⟨rfl, rfl, rfl⟩ := hcs
    exact ⟨Nat.le_refl _, by omega, fun _ => [], fun i h => absurd h (by omega)⟩
  · simp [Value.cells] at hcs
    obtain ⟨rfl, rfl, rfl⟩ := hcs
    simp only [if_true] at hmm
    subst hmm
    refine ⟨hle, hm, choose_lt (α := List Int) (p := fun i ev => InB (ks.map ckR) ev ∧ ∃ b o, (some ad : Option Addr) = some ⟨b, o, none⟩ ∧ b < W.heap.size ∧ W.rangeAt b (o + i * ks.length) (cksV ks ev)) fun i him => ?_⟩
    obtain ⟨cs', hc, ht'⟩ := hi i him
    rw [hC] at hc
    obtain ⟨ev, h1, rfl⟩ := flat_ok 10 hf hC ht'
    obtain ⟨_, hcl, hat⟩ := World.cells?_some hc
    refine ⟨ev, h1, ?_⟩
    rcases hform with h0 | ⟨b, o, h1, h2⟩
    · cases h0
    · refine ⟨b, o, h1, h2, fun j v hj => ?_⟩
      cases h1
      have hjl : j < ks.length := by have := (List.getElem?_eq_some_iff.1 hj).1; rw [cksV_len] at this; exact this
      have h3 := hat j hjl
      rw [Addr.add_mid, Addr.add_mid] at h3
      rw [h3]
      exact hj
end
end Go.Proofs.YtkogjjeoihnjpaaGreat
end
