/- A hart held against itself, a record held against itself: alike. No condition. Contracts of Ram.Fork: a copy of every page. No condition. Two arrays of integers held against each other. No condition. Contracts of Ram.Same: have both the same bytes? No condition. Machines by themselves: what stays of one, a step, its copy, its memory's copy; a run of steps as numbers. No condition. A machine's copy of its memory, its copy. No condition. IsaTwins: the walk. No condition. -/
import Derived.Test.YtkogjjeoihnjpaaGreatPack40
import Derived.Test.YtkogjjeoihnjpaaGreatPack7
import Derived.Test.YtkogjjeoihnjpaaGreatPack36
import Derived.Deep.MidRow
import Derived.StillTailTactics
import Derived.BigRegion
import Derived.Deep.RegionWith
import Derived.Deep.RegionHeld3
import Derived.Deep.QuietTactic
import Derived.BigQuiet
import Derived.Deep.LoopGhost
import Derived.Deep.DeepCutAuto
import Derived.Deep.DeepFit
import Derived.Deep.DeepMust
import Derived.Handy
import Derived.Test.YtkogjjeoihnjpaaGreatPack6
import Derived.Stop.BytesEq
import Derived.Maps.AppendAt
import Derived.RangeFuncBox
import Derived.Deep.CutBlock
section
set_option linter.unusedVariables false
set_option linter.unusedSimpArgs false
namespace Go.Proofs.YtkogjjeoihnjpaaGreat.Sx
open Go Go.RowKit
set_option maxRecDepth 100000
/-- is b what c is not? -/
def negB (c b : E) : Bool := decide (b = .no c) || (match c, b with
  | .cmp .eql x y, .cmp .neq x' y' => decide (x' = x) && decide (y' = y)
  | _, _ => false)
theorem negB_ok (V : Env) {c b : E} (h : negB c b = true) : b.tr V = !(c.tr V) := by
  unfold negB at h
  rcases Bool.or_eq_true_iff.1 h with h | h
  · rw [of_decide_eq_true h, tr_no]
  · split at h
    · obtain ⟨h1, h2⟩ := Bool.and_eq_true_iff.1 h
      rw [of_decide_eq_true h1, of_decide_eq_true h2, tr_cmp, tr_cmp]
      rfl
    · cases h
/-- is it true whatever the variables are? -/
def selfB : E → Bool
  | .tt b => b
  | .cmp .eql a b => decide (a = b)
  | .ite c a b => (selfB c && selfB a) || (decide (a = c) && negB c b)
  | _ => false
theorem selfB_ok (V : Env) : ∀ e : E, selfB e = true → e.tr V = true
  | .tt b, h => h
  | .cmp .eql a b, h => by
    have h : decide (a = b) = true := h
    rw [of_decide_eq_true h, tr_cmp]
    simp [cmpD]
  | .ite c a b, h => by
    have h : ((selfB c && selfB a) || (decide (a = c) && negB c b)) = true := h
    rw [tr_ite]
    rcases Bool.or_eq_true_iff.1 h with h | h
    · obtain ⟨h1, h2⟩ := Bool.and_eq_true_iff.1 h
      rw [if_pos (selfB_ok V c h1)]
      exact selfB_ok V a h2
    · obtain ⟨h1, h2⟩ := Bool.and_eq_true_iff.1 h
      rw [of_decide_eq_true h1, negB_ok V h2]
      cases c.tr V <;> rfl
def selfO : Option E → Bool
  | some e => selfB e
  | none => false
/-- values of so many cells held against themselves -/
theorem eq_self (T : TypeId) (cs : List CK) (rs : List (Int × Int)) (n : Nat) (hl : rs.length ≤ 1000) (he : selfO (xeqP Tryz.prog [] n T (.agg (cksSC cs (vars 0 rs))) (.agg (cksSC cs (vars 0 rs)))) = true) {l : List Int} (hi : InB rs l) (d : Nat) (hd : n ≤ d) (w : World) :
    (Op.equalIn d T (.agg (cksV cs l).toArray) (.agg (cksV cs l).toArray)).run Tryz.prog w = .ok true w := by
  have hv := (argsG_rel (ft := fun _ _ => []) (ss := []) hi hl).2
  have hd0 : (vars 0 rs).map (E.den (envA (fun _ _ => []) l)) = l := vars_den hi.1 fun j m hj => by
    show l.getD (0 + j) 0 = m
    rw [Nat.zero_add, List.getD, hj]; rfl
  have hr : All2 (SC.rel (ctx1 (envA (fun _ _ => []) l))) (cksSC cs (vars 0 rs)) (cksV cs l) := by
    have := cksSC_rel (C := ctx1 (envA (fun _ _ => []) l)) cs (l := vars 0 rs) hv
    rw [show (vars 0 rs).map (E.den (ctx1 (envA (fun _ _ => []) l)).V) = l from hd0] at this
    exact this
  have hc : HCore (ctx1 (envA (fun _ _ => []) l)) [] w := ⟨fun b blk h => by simp [hget] at h, fun b b' blk blk' g c c' h => by simp [hget] at h⟩
  cases hx : xeqP Tryz.prog [] n T (.agg (cksSC cs (vars 0 rs))) (.agg (cksSC cs (vars 0 rs))) with
  | none => rw [hx] at he; cases he
  | some e =>
  rw [hx] at he
  rw [← selfB_ok (envA (fun _ _ => []) l) e he]
  exact (xeqP_ok hc n hx (u := .agg (cksV cs l).toArray) (v := .agg (cksV cs l).toArray) ⟨_, hr, rfl⟩ ⟨_, hr, rfl⟩ d hd).2
theorem eq_hart {h : List Int} (hh : InB hartR h) (w : World) : (Op.equalIn 10000 43 (.agg (hartA h)) (.agg (hartA h))).run Tryz.prog w = .ok true w :=
  eq_self 43 hartC hartR 100 (by decide) (by kernel_rfl) hh 10000 (by decide) w
def recPR : List (Int × Int) := recR ++ (putR ++ putR ++ putR ++ putR)
theorem eq_rec {l : List Int} (hh : InB recPR l) (w : World) : (Op.equalIn 10000 30 (.agg (recA l)) (.agg (recA l))).run Tryz.prog w = .ok true w :=
  eq_self 30 recC recPR 100 (by decide) (by kernel_rfl) hh 10000 (by decide) w
theorem inB_drop {rs rs' : List (Int × Int)} {l : List Int} (h : InB (rs ++ rs') l) : InB rs' (l.drop rs.length) := by
  refine ⟨by rw [List.length_drop, h.1, List.length_append]; omega, fun j r n hj hn => ?_⟩
  rw [List.getElem?_drop] at hn
  refine h.2 (rs.length + j) r n ?_ hn
  rw [List.getElem?_append_right (by omega)]
  rw [show rs.length + j - rs.length = j by omega]; exact hj
end Go.Proofs.YtkogjjeoihnjpaaGreat.Sx
end
section
set_option linter.unusedVariables false
set_option linter.unusedSimpArgs false
namespace Go.Proofs.YtkogjjeoihnjpaaGreat
open Go.RowKit
set_option maxRecDepth 100000
/-! ### a page is loaded and stored in one step -/
theorem page_one (f : Nat → Nat) : (pageArr f).all (·.oneCell') = true := by
  rw [Array.all_eq_true]
  intro i hi
  have h := pageArr_get f i (by rw [pageArr_size] at hi; exact hi)
  rw [Array.getElem?_eq_getElem hi] at h
  rw [Option.some.inj h]
  rfl
theorem ld_page (x : Value) : Instr.loadAt 139 x = loadS 139 x := rfl
theorem st_page (x v : Value) : Instr.storeAt 139 x v = storeS 139 x v := rfl
theorem rl_page (w : World) (g : Nat) (h : rowIs w g 4096 = true) : (loadS 139 (.pointer (some ⟨g, 0, none⟩))).run Tryz.prog w = .ok (.agg (rowOf w g)) w :=
  run_loadS Tryz.prog 139 _ 4096 Tryz.underlying139 rfl (by kernel_rfl) w g h
theorem rs_page (w : World) (g : Nat) (C : Array Value) (h : rowIs w g 4096 = true) (hC : stOk 4096 C = true) : (storeS 139 (.pointer (some ⟨g, 0, none⟩)) (.agg C)).run Tryz.prog w = .ok () (w.setRow g C) :=
  run_storeS' Tryz.prog 139 4096 (by kernel_rfl) w g C h hC
theorem page_ok (f : Nat → Nat) : stOk 4096 (pageArr f) = true := by
  show ((pageArr f).size == 4096 && (pageArr f).all (·.oneCell')) = true
  rw [page_one f, Bool.and_true, beq_iff_eq]
  exact pageArr_size f
theorem page_row {w : World} {g : Nat} {f : Nat → Nat} {T : TypeId} (h : w.heap[g]? = some (.cells (pageArr f) T (0, 0))) : rowIs w g 4096 = true ∧ rowOf w g = pageArr f := ⟨by have := rowIs_of h; rw [pageArr_size] at this; exact this, rowOf_of h⟩
/-- a page put in whole -/
theorem put_page {w w1 : World} {b m n : Nat} {pg : Nat → Option Nat} {ct : Nat → Nat} (h : RamIs w b m n pg ct) {k : Nat} (hp : pg k = none) (hk : k < 256) {f : Nat → Nat} (hf : ∀ j, f j < 256) {D : DataW Unit} (hm : PgMap w1 m (pgSet pg k w.heap.size) D)
    (hg : (w.alloc (.cells (pageArr f) 139)).grownBy w1 (some m)) : RamIs w1 b m n (pgSet pg k w.heap.size) (fun i => if i / 4096 = k then f (i % 4096) else ct i) := by
  have hs := RamAt.self ⟨m, pg, h, rfl⟩
  have hlt : ∀ g, RamOwn m pg g → g < w.heap.size := fun g hg => RamAt.lt ⟨m, pg, h, rfl⟩ hg
  have hbm : b ≠ m := by rintro rfl; exact hs.1 (.inl rfl)
  have hold : ∀ g, g < w.heap.size → g ≠ m → w1.heap[g]? = w.heap[g]? := fun g hg1 hg2 => by
    rw [hg.block g (by simp; omega) (by simpa using hg2), blk_alloc_old _ _ _ hg1]
  have hmg : m < w.heap.size := hlt m (.inl rfl)
  have hnew : w1.heap[w.heap.size]? = some (.cells (pageArr f) 139 (0, 0)) := by
    rw [hg.block w.heap.size (by simp) (by simp; omega), blk_alloc]
  have hdm : ∀ k' j, j < 4096 → (4096 * k' + j) / 4096 = k' ∧ (4096 * k' + j) % 4096 = j := fun k' j hj => by omega
  refine ⟨(hold b hs.2 hbm).trans h.at_, h.lo, h.hi, ⟨D, hm⟩, fun k' g' hk' => ?_, fun k' hk' j hj => ?_, fun k1 k2 g' h1 h2 => ?_, fun i => ?_, fun k' hk' => ?_⟩
  · unfold pgSet at hk'
    by_cases e : k' = k
    · subst e
      rw [if_pos rfl] at hk'
      obtain rfl := Option.some.inj hk'
      rw [hnew]
      refine congrArg (fun c => some (Obj.cells c _ _)) (pageArr_congr fun j hj => ?_)
      rw [(hdm k' j hj).1, (hdm k' j hj).2, if_pos rfl]
    · rw [if_neg e] at hk'
      have hgm : g' ≠ m := by
        rintro rfl
        obtain ⟨es, c, hm⟩ := h.map_is
        rw [h.page k' g' hk'] at hm
        cases hm
      rw [hold g' (hlt g' (.inr ⟨k', hk'⟩)) hgm, h.page k' g' hk']
      refine congrArg (fun c => some (Obj.cells c _ _)) (pageArr_congr fun j hj => ?_)
      rw [(hdm k' j hj).1, if_neg e]
  · unfold pgSet at hk'
    by_cases e : k' = k
    · rw [if_pos e] at hk'; cases hk'
    · rw [if_neg e] at hk'
      show (if (4096 * k' + j) / 4096 = k then _ else _) = 0
      rw [(hdm k' j hj).1, if_neg e]
      exact h.zero k' hk' j hj
  · unfold pgSet at h1 h2
    by_cases e1 : k1 = k <;> by_cases e2 : k2 = k
    · rw [e1, e2]
    · rw [if_pos e1] at h1; rw [if_neg e2] at h2
      have := hlt g' (.inr ⟨k2, h2⟩)
      have := Option.some.inj h1
      omega
    · rw [if_neg e1] at h1; rw [if_pos e2] at h2
      have := hlt g' (.inr ⟨k1, h1⟩)
      have := Option.some.inj h2
      omega
    · rw [if_neg e1] at h1; rw [if_neg e2] at h2
      exact h.inj k1 k2 g' h1 h2
  · show (if i / 4096 = k then f (i % 4096) else ct i) < 256
    split
    · exact hf _
    · exact h.bd i
  · unfold pgSet at hk'
    by_cases e : k' = k
    · rw [e]; exact hk
    · rw [if_neg e] at hk'; exact h.small k' hk'
/-- the bytes of the pages that have been copied -/
def ctLeft (left : Lit → Bool) (ct : Nat → Nat) : Nat → Nat := fun i => if left (keyL (i / 4096)) then 0 else ct i
/-- the copy under way -/
def ForkR (w : World) (n m r : Nat) (pg : Nat → Option Nat) (ct : Nat → Nat) (D : DataW Unit) (wr : World) : Prop :=
  ∃ left cnt pg2, wr.ranges Tryz.prog 3 pgR m r (pgCount pg 256) D left cnt ∧ RamIs wr (w.heap.size + 1) w.heap.size n pg2 (ctLeft left ct) ∧ (∀ k, left (keyL k) = true → pg2 k = none) ∧ (∀ k g, pg2 k = some g → w.heap.size ≤ g) ∧ (∀ k, pg k = none → left (keyL k) = false) ∧ Below w.heap.size w wr
theorem pg_invK : ∀ key kl, keyOf Tryz.prog 3 key = some kl → ∃ x, key = Value.int .i64 x := fun key kl h => by
  obtain ⟨x, h1, _⟩ := Go.Maps.keyOf_int_inv Tryz.underlying3 h
  exact ⟨x, h1⟩
theorem pg_invV : ∀ v y, pgR v = some y → ∃ c, v = pgV c := fun v y h => by
  unfold pgR at h
  split at h
  · exact ⟨some _, rfl⟩
  · exact ⟨none, rfl⟩
  · cases h
theorem keyL_same (a k : Nat) : (keyL a).sameKey (keyL k) = decide (a = k) := by
  by_cases e : a = k
  · subst e; simp [keyL, Lit.sameKey]
  · have e2 : ¬ ((a : Int) = k) := by omega
    simp [keyL, Lit.sameKey, e, e2]
/-- the bytes after one more page -/
theorem ctLeft_step (left : Lit → Bool) (ct : Nat → Nat) (k : Nat) : (fun i => if i / 4096 = k then ct (4096 * k + i % 4096) else ctLeft left ct i) = ctLeft (fun z => left z && !z.sameKey (keyL k)) ct := by
  funext i
  unfold ctLeft
  show _ = if (left (keyL (i / 4096)) && !(keyL (i / 4096)).sameKey (keyL k)) = true then 0 else ct i
  rw [keyL_same]
  by_cases e : i / 4096 = k
  · rw [if_pos e, decide_eq_true e, if_neg (by simp)]
    congr 1
    omega
  · rw [if_neg e, decide_eq_false e]
    simp
/-- the entry that comes -/
theorem pg_entry {w : World} {m : Nat} {pg : Nat → Option Nat} {D : DataW Unit} (h : PgMap w m pg D) {x : Int} {p : Option Nat} {kl : Lit} {y : DataW Unit × List MemPlace} (hkey : keyOf Tryz.prog 3 (.int .i64 x) = some kl) (hv : pgR (pgV p) = some y) (hat : ∀ zd, D.atKey kl zd = y.1) :
    ∃ k g, x = ((k : Nat) : Int) ∧ kl = keyL k ∧ k < 256 ∧ p = some g ∧ pg k = some g := by
  obtain ⟨k, rfl, hk, hs⟩ := h.has kl (Go.Maps.has_true_of_atKey hat)
  obtain ⟨x', h1, h2, _⟩ := Go.Maps.keyOf_int_inv Tryz.underlying3 hkey
  injection h1 with _ h1
  subst h1
  unfold keyL at h2
  injection h2 with _ h2
  have hg := h.get k
  rw [hat] at hg
  rw [pgR_V] at hv
  have hy := Option.some.inj hv
  rw [← hy] at hg
  simp only at hg
  injection hg with hg
  injection hg with _ hg
  have hp := pgI_inj hg
  obtain ⟨g, hpg⟩ := Option.isSome_iff_exists.1 hs
  exact ⟨k, g, h2.symm, rfl, hk, hp.trans hpg, hpg⟩
attribute [local go_sem ↓] ld_page st_page
attribute [local go_sem] rl_page rs_page row_alloc row_drew row_drewN is_alloc is_drew is_drewN row_setCell is_setCell setRow_alloc_new objRow_cells objIs_cells
set_option maxHeartbeats 4000000 in
theorem ram_fork {w : World} {b m n : Nat} {pg : Nat → Option Nat} {ct : Nat → Nat} (h : RamIs w b m n pg ct) :
    Calls Tryz.prog 74 #[.pointer (some ⟨b, 0, none⟩)] w fun e w' => e = .returned (.pointer (some ⟨w.heap.size + 1, 0, none⟩)) ∧ Below w.heap.size w w' ∧ ∃ S, RamAt w' (w.heap.size + 1) n ct S ∧ ∀ g, S g → w.heap.size ≤ g := by
  obtain ⟨D, hD⟩ := h.map
  have c0 : w.cell? ⟨b, 0, none⟩ = some (.int .i64 n) := blk_cell h.at_ 0
  have c1 : w.cell? ⟨b, 1, none⟩ = some (.map (some m)) := blk_cell h.at_ 1
  have hbl : b < w.heap.size := blk_lt h.at_
  have H := Lib.hid h
  have HD := Lib.hid hD
  clear h hD
  have hmm := @run_makeMap Tryz.prog
  go_enter Tryz.func74, Tryz.ntmps74
  go_wp2_with (at_range; refine wpList_range_own _ rfl _ 134 rfl 3 137 keyI Tryz.underlying134 pgR m (pgCount pg 256) D rfl ((HD.out.own.alloc _).alloc _) ?_; intro w0 hrg0 hg0 hs0)
  go_frame
  have HN0 : Hid (RamIs ((w.alloc (.map #[] 0)).alloc (.cells #[.int .i64 n, .map (some w.heap.size)] 136)) (w.heap.size + 1) w.heap.size n (fun _ => none) (ctLeft (Go.Maps.has D) ct)) := by
    refine ⟨?_, H.out.lo, H.out.hi, ⟨.map [], (PgMap.new w).kept (blk_alloc_old _ _ _ (by simp))⟩, (fun k g h => by cases h), fun k _ j hj => ?_, (fun k k' g h => by cases h), fun i => ?_, (fun k h => by cases h)⟩
    · have := blk_alloc (w.alloc (.map #[] 0)) (.cells #[.int .i64 n, .map (some w.heap.size)] 136)
      simpa using this
    · unfold ctLeft
      rw [show (4096 * k + j) / 4096 = k by omega]
      split
      · rfl
      · rename_i hh
        cases hpk : pg k with
        | none => exact H.out.zero k hpk j hj
        | some g =>
          exfalso
          apply hh
          have hg := HD.out.get k
          rw [hpk] at hg
          cases hq : Go.Maps.has D (keyL k) with
          | true => rfl
          | false =>
            rw [Go.Maps.atKey_of_not_has hq] at hg
            injection hg with hg
            injection hg with _ hg
            simp [pgI] at hg
    · unfold ctLeft
      split
      · omega
      · exact H.out.bd i
  have er : ((w.alloc (Obj.map #[] 0)).alloc (Obj.cells #[Value.int IntKind.i64 n, Value.map (some w.heap.size)] 136)).heap.size = w.heap.size + 2 := by simp
  rw [er] at hrg0 ⊢
  have HB0 : Hid (Below w.heap.size w w0) := (((Below.refl w.heap.size w).alloc (Nat.le_refl _) _).alloc (by simp) _).grown hg0 (by simp; omega) (fun j hj => by cases hj)
  have HR0 := Lib.hid hrg0
  have HG0 := Lib.hid hg0
  clear hrg0 hg0 hs0 er hmm
  go_loopw [] (fun wr => ForkR w n m (w.heap.size + 2) pg ct D wr) (fun wr => wr.rangeLeft m (w.heap.size + 2))
  case atStart =>
    refine ⟨Go.Maps.has D, _, fun _ => none, HR0.out, HN0.out.keep (fun g hg => ?_), fun _ _ => rfl, (fun k g h => by cases h), fun k hk => ?_, HB0.out⟩
    · rcases hg with rfl | rfl | ⟨k, hk⟩
      · exact HG0.out.block _ (by simp <;> omega) (by simp)
      · exact HG0.out.block _ (by simp <;> omega) (by simp)
      · cases hk
    · cases hq : Go.Maps.has D (keyL k) with
      | false => rfl
      | true =>
        obtain ⟨k', e, _, h2⟩ := HD.out.has _ hq
        rw [← keyL_inj e, hk] at h2
        cases h2
  case round =>
    clear HR0 HG0 HB0 HN0
    obtain ⟨left, cnt, pg2, hrg, hram, hl1, hl2, hl3, hb⟩ := hrel
    have HRG := Lib.hid hrg
    have HRAM := Lib.hid hram
    have HL := Lib.hid (And.intro hl1 (And.intro hl2 hl3))
    have HB := Lib.hid hb
    clear hrg hram hl1 hl2 hl3 hb
    go_wp2_with (at_next; refine wpList_next_ranges _ rfl _ rfl 3 keyI pgR (Value.int .i64) pgV pg_invK pg_invV m (w.heap.size + 2) (pgCount pg 256) D left cnt rfl HRG.out ?_ ?_)
    · intro hc0 hl0
      have HL0 := Lib.hid hl0
      clear hl0 hc0
      go_wp2_with fail
      go_ret
      refine ⟨rfl, HB.out, RamOwn w.heap.size pg2, RamAt.ext ⟨_, _, HRAM.out, rfl⟩ (fun i => by unfold ctLeft; rw [HL0.out]; rfl), ?_⟩
      rintro g (rfl | ⟨k, hk⟩)
      · exact Nat.le_refl _
      · exact HL.out.2.1 k g hk
    · intro x p kl y1 y2 w1 cnt1 hkey hlk hv hat hrg1 hlt hg1 hs1 hen
      obtain ⟨k, g, rfl, rfl, hk256, rfl, hpg⟩ := pg_entry (y := (y1, y2)) HD.out hkey hv hat
      have hlt0 := HRG.out.lt
      have h2 := HL.out.1 k hlk
      have hgl : g < w.heap.size := RamAt.lt ⟨m, pg, H.out, rfl⟩ (.inr ⟨k, hpg⟩)
      have hkp : ∀ q, q < wr.heap.size → q ≠ w.heap.size + 2 → w1.heap[q]? = wr.heap[q]? := fun q h1 h2 => hg1.block q h1 (by simp; omega)
      have hpage : w1.heap[g]? = some (.cells (pageArr fun j => ct (4096 * k + j)) 139 (0, 0)) := by
        rw [hkp g (by omega) (by omega), HB.out.block g hgl]
        exact H.out.page k g hpg
      obtain ⟨r4, o4⟩ := page_row hpage
      have hpo := page_ok fun j => ct (4096 * k + j)
      have HRAM1 : Hid (RamIs w1 (w.heap.size + 1) w.heap.size n pg2 (ctLeft left ct)) := HRAM.out.keep fun q hq => by
        have hself := RamAt.self ⟨_, _, HRAM.out, rfl⟩
        rcases hq with rfl | hq
        · exact hkp _ hself.2 (by omega)
        · have hql := RamAt.lt ⟨_, _, HRAM.out, rfl⟩ hq
          refine hkp q hql ?_
          rintro rfl
          rcases hq with hq | ⟨k', hk'⟩
          · omega
          · have h5 := HRAM.out.page k' _ hk'
            obtain ⟨_, _, since, seen, c0, _, _, _, _, hr, _⟩ := HRG.out
            rw [hr] at h5
            cases h5
      obtain ⟨D2, hD2⟩ := HRAM1.out.map
      have HD2 := Lib.hid hD2
      have cm : w1.cell? ⟨w.heap.size + 1, 1, none⟩ = some (.map (some w.heap.size)) := blk_cell HRAM1.out.at_ 1
      have hbl2 : w.heap.size + 1 < w1.heap.size := blk_lt HRAM1.out.at_
      have hzs : (Tryz.zeroCells139.size == 4096) = true := by rw [zero_page, pageArr_size]; rfl
      have HKEY : Hid (keyOf Tryz.prog 3 (.int .i64 ((k : Nat) : Int)) = some (keyL k)) := keyOf_nat (by omega)
      have HS := Lib.hid (And.intro hlk (And.intro hrg1 (And.intro hlt (And.intro hg1 hpg))))
      have hgl1 : g < w1.heap.size := by have := hg1.size; omega
      have hv2 : pgV (some g) = .pointer (some ⟨g, 0, none⟩) := rfl
      rw [hv2] at hen ⊢
      clear hkey hlk hv hat hrg1 hlt hg1 hs1 hpg hpage hkp hD2
      go_wp2_with (at_mapUpdate; refine wpList_mapUpdate_own _ rfl _ _ _ 134 rfl 3 137 keyI Tryz.underlying134 pgR w.heap.size (pgCount pg2 256) D2 rfl (HD2.out.own.alloc _) (Nat.lt_of_le_of_lt (pgCount_le pg2 256) (by decide)) _ _ (keyL k) rfl rfl HKEY.out _ [] (pgR_V (some w1.heap.size)) ?_; intro w2 hown2 hgrow2; have HP2 := Lib.hid (put_page HRAM1.out h2 hk256 (fun j => H.out.bd _) (HD2.out.put hk256 h2 w1.heap.size hown2) hgrow2); have HG2 := Lib.hid hgrow2; clear hown2 hgrow2)
      have hne1 : w.heap.size ≠ m := fun e => by have := (RamAt.lt ⟨m, pg, H.out, rfl⟩ (.inl rfl) : m < w.heap.size); omega
      have hrg2 := (HS.out.2.1.alloc (.cells (pageArr fun j => ct (4096 * k + j)) 139)).kept HG2.out (fun e => hne1 (Option.some.inj e).symm) (fun e => by have := Option.some.inj e; omega)
      go_roundw
      case rel =>
        suffices hf : ForkR w n m (w.heap.size + 2) pg ct D w2 from ⟨_, _, _, _, _, _, _, _, _, _, _, _, _, _, _, _, hf, rfl⟩
        refine ⟨_, cnt1, pgSet pg2 k w1.heap.size, hrg2, ?_, fun k' hk' => ?_, fun k' g' hk' => ?_, fun k' hk' => ?_, ?_⟩
        · rw [← ctLeft_step]
          exact HP2.out
        · rw [keyL_same, Bool.and_eq_true, Bool.not_eq_true', decide_eq_false_iff_not] at hk'
          unfold pgSet
          rw [if_neg hk'.2]
          exact HL.out.1 k' hk'.1
        · unfold pgSet at hk'
          split at hk'
          · have := Option.some.inj hk'
            have := HB.out.size
            omega
          · exact HL.out.2.1 k' g' hk'
        · show (left (keyL k') && _) = false
          rw [HL.out.2.2 k' hk']
          rfl
        · exact ((HB.out.grown HS.out.2.2.2.1 (by omega) (fun j hj => by cases hj; omega)).alloc (by omega) _).grown HG2.out (by simp; omega) (fun j hj => by cases hj; omega)
      case measure =>
        rw [hrg2.left_eq, HRG.out.left_eq]
        exact HS.out.2.2.1
end Go.Proofs.YtkogjjeoihnjpaaGreat
end
section
set_option linter.unusedVariables false
set_option linter.unusedSimpArgs false
namespace Go.Proofs.YtkogjjeoihnjpaaGreat
open Go.RowKit
theorem all_getD (xs : List Int) : ∀ (ys : List Int), xs.length = ys.length → (List.range xs.length).all (fun i => xs.getD i 0 == ys.getD i 0) = (xs == ys) := by
  induction xs with
  | nil => intro ys h; cases ys with
    | nil => rfl
    | cons y ys => simp at h
  | cons x xs ih =>
    intro ys h
    cases ys with
    | nil => simp at h
    | cons y ys =>
      have ih := ih ys (by simpa using h)
      rw [List.length_cons, List.range_succ_eq_map, List.all_cons, List.all_map]
      simp only [List.getD_cons_zero, Function.comp_def, List.getD_cons_succ, ih]
      simp [List.cons_beq_cons]
theorem run_equalIn_ints {P : Program} (w : World) (d : Nat) (t e : TypeId) (K : IntKind) (n : Nat) (ht : P.underlying t = some (.array n e)) (he : P.underlying e = some (.int K)) (hsz : ∀ w, (sizeOf e).run P w = .ok 1 w)
    (xs ys : List Int) (hx : xs.length = n) (hy : ys.length = n) :
    (Op.equalIn (d + 2) t (.agg (xs.map (Value.int K)).toArray) (.agg (ys.map (Value.int K)).toArray)).run P w = .ok (xs == ys) w := by
  rw [← all_getD xs ys (hx.trans hy.symm), hx, List.range_eq_range', Op.equalIn]
  simp only [Sem.run_bind, run_underlying ht, Result.andThen_ok, hsz, Std.Legacy.Range.forIn_eq_forIn_range', Std.Legacy.Range.size, Nat.sub_zero, Nat.add_sub_cancel, Nat.div_one]
  have hl : ∀ i ∈ List.range' 0 n 1, i < n := fun i hi => by simpa using (List.mem_range'_1.1 hi).2
  generalize List.range' 0 n 1 = l at hl ⊢
  induction l with
  | nil => simp
  | cons i l ih =>
    have hi : i < n := hl i (by simp)
    have px : (part e (xs.map (Value.int K)).toArray (i * 1)).run P w = .ok (Value.int K (xs.getD i 0)) w := by
      simp [part, isAgg, run_underlying he, List.getD, List.getElem?_eq_getElem (show i < xs.length by omega)]
    have py : (part e (ys.map (Value.int K)).toArray (i * 1)).run P w = .ok (Value.int K (ys.getD i 0)) w := by
      simp [part, isAgg, run_underlying he, List.getD, List.getElem?_eq_getElem (show i < ys.length by omega)]
    have pe : (Op.equalIn (d + 1) e (Value.int K (xs.getD i 0)) (Value.int K (ys.getD i 0))).run P w = .ok (xs.getD i 0 == ys.getD i 0) w := run_equalIn_int w d e K K _ _ he
    simp only [List.forIn_cons, Sem.run_bind, px, py, pe, Result.andThen_ok, List.all_cons]
    cases hb : (xs.getD i 0 == ys.getD i 0)
    · simp
    · simp only [Bool.not_true, Bool.false_eq_true, if_false, Sem.run_pure, Result.andThen_ok, Bool.true_and]
      exact ih fun j hj => hl j (by simp [hj])
end Go.Proofs.YtkogjjeoihnjpaaGreat
end
section
set_option linter.unusedVariables false
set_option linter.unusedSimpArgs false
namespace Go.Proofs.YtkogjjeoihnjpaaGreat
open Go.RowKit
set_option maxRecDepth 100000
theorem sz_u8 (w : World) : (sizeOf 5).run Tryz.prog w = .ok 1 w := by kernel_rfl
/-- are two pages alike? -/
def pgEq (f g : Nat → Nat) : Bool := ((List.range 4096).map fun j => (f j : Int)) == (List.range 4096).map fun j => (g j : Int)
theorem pgEq_iff (f g : Nat → Nat) : pgEq f g = true ↔ ∀ j, j < 4096 → f j = g j := by
  unfold pgEq
  rw [beq_iff_eq]
  constructor
  · intro h j hj
    have h2 := congrArg (fun l : List Int => l[j]?) h
    simp [hj] at h2
    omega
  · intro h
    refine List.map_congr_left fun j hj => ?_
    rw [h j (List.mem_range.1 hj)]
theorem pageArr_list (f : Nat → Nat) : pageArr f = (((List.range 4096).map fun j => (f j : Int)).map (Value.int .u8)).toArray := by
  unfold pageArr
  rw [List.map_map]
  rfl
theorem eq_page (f g : Nat → Nat) (w : World) : (Op.equalIn 10000 139 (.agg (pageArr f)) (.agg (pageArr g))).run Tryz.prog w = .ok (pgEq f g) w := by
  have h := run_equalIn_ints (P := Tryz.prog) w 9998 139 5 .u8 4096 Tryz.underlying139 Tryz.underlying5 sz_u8 ((List.range 4096).map fun j => (f j : Int)) ((List.range 4096).map fun j => (g j : Int)) (by rw [List.length_map, List.length_range]) (by rw [List.length_map, List.length_range])
  rw [← pageArr_list, ← pageArr_list] at h
  exact h
/-- the bytes of both memories are alike -/
def AllEq (n : Nat) (f g : Nat → Nat) : Prop := ∀ i, i < 4096 * n → f i = g i
theorem AllEq.page {n : Nat} {f g : Nat → Nat} (h : AllEq n f g) (he : pgEq (fun j => f (4096 * n + j)) (fun j => g (4096 * n + j)) = true) : AllEq (n + 1) f g := fun i hi => by
  by_cases e : i < 4096 * n
  · exact h i e
  · have := (pgEq_iff _ _).1 he (i - 4096 * n) (by omega)
    rw [show 4096 * n + (i - 4096 * n) = i by omega] at this
    exact this
theorem AllEq.not {n k : Nat} {f g : Nat → Nat} (hk : k < n) (he : pgEq (fun j => f (4096 * k + j)) (fun j => g (4096 * k + j)) = false) : ¬ AllEq n f g := fun h => by
  rw [(pgEq_iff _ _).2 fun j hj => h _ (by omega)] at he
  cases he
/-- a page's bytes, as Same reads them -/
def pgF (p : Option Nat) (ct : Nat → Nat) (k : Nat) : Nat → Nat := match p with | none => fun _ => 0 | some _ => fun j => ct (4096 * k + j)
theorem pgF_eq {p p2 : Option Nat} {ct ct2 : Nat → Nat} {k : Nat} (h1 : p = none → ∀ j, j < 4096 → ct (4096 * k + j) = 0) (h2 : p2 = none → ∀ j, j < 4096 → ct2 (4096 * k + j) = 0) :
    pgEq (pgF p ct k) (pgF p2 ct2 k) = pgEq (fun j => ct (4096 * k + j)) (fun j => ct2 (4096 * k + j)) := by
  rw [Bool.eq_iff_iff, pgEq_iff, pgEq_iff]
  have e1 : ∀ j, j < 4096 → pgF p ct k j = ct (4096 * k + j) := fun j hj => by
    cases p with
    | none => exact (h1 rfl j hj).symm
    | some g => rfl
  have e2 : ∀ j, j < 4096 → pgF p2 ct2 k j = ct2 (4096 * k + j) := fun j hj => by
    cases p2 with
    | none => exact (h2 rfl j hj).symm
    | some g => rfl
  exact ⟨fun h j hj => by rw [← e1 j hj, ← e2 j hj]; exact h j hj, fun h j hj => by rw [e1 j hj, e2 j hj]; exact h j hj⟩
/-- a page's cells, as Same loads them -/
noncomputable def pgC (p : Option Nat) (ct : Nat → Nat) (k : Nat) : Array Value := match p with | none => Tryz.zeroCells139 | some _ => pageArr fun j => ct (4096 * k + j)
theorem pgC_eq (p : Option Nat) (ct : Nat → Nat) (k : Nat) : pgC p ct k = pageArr (pgF p ct k) := by
  cases p with
  | none => exact zero_page
  | some g => rfl
theorem eq_pages {p p2 : Option Nat} {ct ct2 : Nat → Nat} {k : Nat} (w : World) (h1 : p = none → ∀ j, j < 4096 → ct (4096 * k + j) = 0) (h2 : p2 = none → ∀ j, j < 4096 → ct2 (4096 * k + j) = 0) :
    (Op.equalIn 10000 139 (.agg (pgC p ct k)) (.agg (pgC p2 ct2 k))).run Tryz.prog w = .ok (pgEq (fun j => ct (4096 * k + j)) (fun j => ct2 (4096 * k + j))) w := by
  rw [pgC_eq, pgC_eq, eq_page, pgF_eq h1 h2]
theorem zero_size : (Tryz.zeroCells139.size == 4096) = true := by rw [zero_page, pageArr_size]; rfl
theorem below_drewN {B : Nat} {a w : World} (h : Below B a w) (n : Nat) : Below B a (w.drewN n) := h.trans ⟨rfl, rfl, rfl, Nat.le_refl _, fun _ _ => rfl⟩
attribute [local go_sem ↓] ld_page st_page
attribute [local go_sem] rl_page rs_page row_alloc row_drew row_drewN is_alloc is_drew is_drewN row_setCell is_setCell setRow_alloc_new objRow_cells objIs_cells
set_option maxHeartbeats 4000000 in
theorem ram_same {w : World} {b b2 m m2 n : Nat} {pg pg2 : Nat → Option Nat} {ct ct2 : Nat → Nat} (h : RamIs w b m n pg ct) (h2 : RamIs w b2 m2 n pg2 ct2) :
    Calls Tryz.prog 33 #[.pointer (some ⟨b, 0, none⟩), .pointer (some ⟨b2, 0, none⟩)] w fun e w' => (∃ v, e = .returned (.bool v) ∧ (v = true ↔ AllEq n ct ct2)) ∧ Below w.heap.size w w' := by
  have c0 : w.cell? ⟨b, 0, none⟩ = some (.int .i64 n) := blk_cell h.at_ 0
  have c1 : w.cell? ⟨b, 1, none⟩ = some (.map (some m)) := blk_cell h.at_ 1
  have d0 : w.cell? ⟨b2, 0, none⟩ = some (.int .i64 n) := blk_cell h2.at_ 0
  have d1 : w.cell? ⟨b2, 1, none⟩ = some (.map (some m2)) := blk_cell h2.at_ 1
  have hbl : b < w.heap.size := blk_lt h.at_
  have hbl2 : b2 < w.heap.size := blk_lt h2.at_
  have hn : (n : Int) ≤ 256 := by have := h.hi; omega
  have hmx : max (n : Int) n = n := by omega
  have hmx2 : max n n = n := by omega
  have HN0 : AllEq 0 ct ct2 := fun i hi => by omega
  have H := Lib.hid h
  have H2 := Lib.hid h2
  clear h h2
  go_enter Tryz.func33, Tryz.ntmps33
  go_upto_region 3 with fail
  go_quiet (fail)
  go_wp2_with fail
  go_loopw [29] (fun i wr => ∃ k : Nat, k ≤ n ∧ i = .int .i64 k ∧ AllEq k ct ct2 ∧ Below w.heap.size w wr) (fun i _ => n - (intOf i).toNat)
  case atStart => exact ⟨0, Nat.zero_le _, rfl, HN0, by first | exact below_drewN (Below.refl _ _) _ | exact Below.refl _ _⟩
  case round =>
    obtain ⟨k, hk, rfl, hall, hb⟩ := hrel
    have HALL := Lib.hid hall
    have HB := Lib.hid hb
    clear hall hb
    by_cases hlt : k < n
    · have r0 : wr.heap[b]? = w.heap[b]? := HB.out.block b hbl
      have q0 : wr.heap[b2]? = w.heap[b2]? := HB.out.block b2 hbl2
      have e1 : wr.cell? ⟨b, 1, none⟩ = some (.map (some m)) := blk_cell (r0.trans H.out.at_) 1
      have f1 : wr.cell? ⟨b2, 1, none⟩ = some (.map (some m2)) := blk_cell (q0.trans H2.out.at_) 1
      obtain ⟨D, hD⟩ := H.out.map
      obtain ⟨D2, hD2⟩ := H2.out.map
      have hk3 : k < 256 := by have := H.out.hi; omega
      have hl1 := fun q => (hD.kept (w' := wr.drewN q) (HB.out.block m H.out.map_lt)).lookup hk3
      have hl2 := fun q => (hD2.kept (w' := wr.drewN q) (HB.out.block m2 H2.out.map_lt)).lookup hk3
      clear hD hD2
      go_wp2_with fail
      go_quiet (fail)
      have hz1 : pg k = none → ∀ j, j < 4096 → ct (4096 * k + j) = 0 := H.out.zero k
      have hz2 : pg2 k = none → ∀ j, j < 4096 → ct2 (4096 * k + j) = 0 := H2.out.zero k
      have hE := fun w => eq_pages (k := k) w hz1 hz2
      clear hz1 hz2
      cases he : pgEq (fun j => ct (4096 * k + j)) (fun j => ct2 (4096 * k + j)) with
      | true =>
        have HE := Lib.hid he
        simp only [he] at hE
        clear he
        rcases hp1 : pg k with _ | g1 <;> rcases hp2 : pg2 k with _ | g2 <;> simp only [hp1, hp2] at hE <;> simp only [pgC, pgV] at hE ⊢
        · clear hl1 hl2 e1 f1 r0 q0 hp1 hp2
          have hzs := zero_size
          go_upto_region 11 with fail
          generalize Tryz.zeroCells139 = Z at hE hzs ⊢
          generalize hW : ((wr.drewN nq).alloc (.cells Z 139)).alloc (.cells Z 139) = W
          have r1 : rowIs W wr.heap.size 4096 = true := by rw [← hW]; exact (is_alloc_old _ _ _ _ (by simp)).trans ((is_alloc_new _ _ _ _).trans hzs)
          have o1 : rowOf W wr.heap.size = Z := by rw [← hW]; exact (row_alloc_old _ _ _ (by simp)).trans (row_alloc_new _ _ _ _)
          have r2 : rowIs W (wr.heap.size + 1) 4096 = true := by rw [← hW]; have := is_alloc_new ((wr.drewN nq).alloc (.cells Z 139)) Z 139 4096; simp at this; exact this.trans (by simpa using hzs)
          have o2 : rowOf W (wr.heap.size + 1) = Z := by rw [← hW]; have := row_alloc_new ((wr.drewN nq).alloc (.cells Z 139)) Z 139 (0, 0); simpa using this
          have HBW : Hid (Below w.heap.size w W) := by rw [← hW]; exact by repeat first | exact HB.out | refine below_drewN ?_ _ | refine Below.alloc ?_ (by have := HB.out.size; first | omega | (simp; omega)) _
          obtain ⟨Z2, hz2⟩ : ∃ Z2, Z = Z2 := ⟨_, rfl⟩
          have o3 := o2.trans hz2
          have hE2 : ∀ w, (Op.equalIn 10000 139 (.agg Z) (.agg Z2)).run Tryz.prog w = .ok true w := fun w => by rw [← hz2]; exact hE w
          clear hW hzs o2 hE hz2
          go_quiet (fail)
          go_wp2_with fail
          go_roundw
          case rel => exact ⟨k + 1, hlt, by go_num, HALL.out.page HE.out, by repeat first | exact HBW.out | refine below_drewN ?_ _⟩
          case measure => simp [intOf]; omega
        · have hg2 : g2 < w.heap.size := RamAt.lt ⟨m2, pg2, H2.out, rfl⟩ (.inr ⟨k, hp2⟩)
          obtain ⟨rb, ob⟩ := page_row ((HB.out.block g2 hg2).trans (H2.out.page k g2 hp2))
          have hgb : g2 < wr.heap.size := by have := HB.out.size; omega
          clear hl1 hl2 e1 f1 r0 q0 hp1 hp2
          have hzs := zero_size
          go_upto_region 11 with fail
          generalize Tryz.zeroCells139 = Z at hE hzs ⊢
          go_quiet (fail)
          go_wp2_with fail
          go_roundw
          case rel => exact ⟨k + 1, hlt, by go_num, HALL.out.page HE.out, by repeat first | exact HB.out | refine below_drewN ?_ _ | refine Below.alloc ?_ (by have := HB.out.size; first | omega | (simp; omega)) _⟩
          case measure => simp [intOf]; omega
        · have hg1 : g1 < w.heap.size := RamAt.lt ⟨m, pg, H.out, rfl⟩ (.inr ⟨k, hp1⟩)
          obtain ⟨ra, oa⟩ := page_row ((HB.out.block g1 hg1).trans (H.out.page k g1 hp1))
          have hga : g1 < wr.heap.size := by have := HB.out.size; omega
          clear hl1 hl2 e1 f1 r0 q0 hp1 hp2
          have hzs := zero_size
          go_upto_region 11 with fail
          generalize Tryz.zeroCells139 = Z at hE hzs ⊢
          go_quiet (fail)
          go_wp2_with fail
          go_roundw
          case rel => exact ⟨k + 1, hlt, by go_num, HALL.out.page HE.out, by repeat first | exact HB.out | refine below_drewN ?_ _ | refine Below.alloc ?_ (by have := HB.out.size; first | omega | (simp; omega)) _⟩
          case measure => simp [intOf]; omega
        · have hg1 : g1 < w.heap.size := RamAt.lt ⟨m, pg, H.out, rfl⟩ (.inr ⟨k, hp1⟩)
          obtain ⟨ra, oa⟩ := page_row ((HB.out.block g1 hg1).trans (H.out.page k g1 hp1))
          have hga : g1 < wr.heap.size := by have := HB.out.size; omega
          have hg2 : g2 < w.heap.size := RamAt.lt ⟨m2, pg2, H2.out, rfl⟩ (.inr ⟨k, hp2⟩)
          obtain ⟨rb, ob⟩ := page_row ((HB.out.block g2 hg2).trans (H2.out.page k g2 hp2))
          have hgb : g2 < wr.heap.size := by have := HB.out.size; omega
          clear hl1 hl2 e1 f1 r0 q0 hp1 hp2
          go_wp2_with fail
          go_quiet (fail)
          go_wp2_with fail
          go_roundw
          case rel => exact ⟨k + 1, hlt, by go_num, HALL.out.page HE.out, by repeat first | exact HB.out | refine below_drewN ?_ _ | refine Below.alloc ?_ (by have := HB.out.size; first | omega | (simp; omega)) _⟩
          case measure => simp [intOf]; omega
      | false =>
        have HE := Lib.hid he
        simp only [he] at hE
        clear he
        rcases hp1 : pg k with _ | g1 <;> rcases hp2 : pg2 k with _ | g2 <;> simp only [hp1, hp2] at hE <;> simp only [pgC, pgV] at hE ⊢
        · clear hl1 hl2 e1 f1 r0 q0 hp1 hp2
          have hzs := zero_size
          go_upto_region 11 with fail
          generalize Tryz.zeroCells139 = Z at hE hzs ⊢
          generalize hW : ((wr.drewN nq).alloc (.cells Z 139)).alloc (.cells Z 139) = W
          have r1 : rowIs W wr.heap.size 4096 = true := by rw [← hW]; exact (is_alloc_old _ _ _ _ (by simp)).trans ((is_alloc_new _ _ _ _).trans hzs)
          have o1 : rowOf W wr.heap.size = Z := by rw [← hW]; exact (row_alloc_old _ _ _ (by simp)).trans (row_alloc_new _ _ _ _)
          have r2 : rowIs W (wr.heap.size + 1) 4096 = true := by rw [← hW]; have := is_alloc_new ((wr.drewN nq).alloc (.cells Z 139)) Z 139 4096; simp at this; exact this.trans (by simpa using hzs)
          have o2 : rowOf W (wr.heap.size + 1) = Z := by rw [← hW]; have := row_alloc_new ((wr.drewN nq).alloc (.cells Z 139)) Z 139 (0, 0); simpa using this
          have HBW : Hid (Below w.heap.size w W) := by rw [← hW]; exact by repeat first | exact HB.out | refine below_drewN ?_ _ | refine Below.alloc ?_ (by have := HB.out.size; first | omega | (simp; omega)) _
          obtain ⟨Z2, hz2⟩ : ∃ Z2, Z = Z2 := ⟨_, rfl⟩
          have o3 := o2.trans hz2
          have hE2 : ∀ w, (Op.equalIn 10000 139 (.agg Z) (.agg Z2)).run Tryz.prog w = .ok false w := fun w => by rw [← hz2]; exact hE w
          clear hW hzs o2 hE hz2
          go_quiet (fail)
          go_wp2_with fail
          go_ret
          exact ⟨⟨false, rfl, fun h => (by cases h), fun h => absurd h (AllEq.not hlt HE.out)⟩, by repeat first | exact HBW.out | refine below_drewN ?_ _⟩
        · have hg2 : g2 < w.heap.size := RamAt.lt ⟨m2, pg2, H2.out, rfl⟩ (.inr ⟨k, hp2⟩)
          obtain ⟨rb, ob⟩ := page_row ((HB.out.block g2 hg2).trans (H2.out.page k g2 hp2))
          have hgb : g2 < wr.heap.size := by have := HB.out.size; omega
          clear hl1 hl2 e1 f1 r0 q0 hp1 hp2
          have hzs := zero_size
          go_upto_region 11 with fail
          generalize Tryz.zeroCells139 = Z at hE hzs ⊢
          go_quiet (fail)
          go_wp2_with fail
          go_ret
          exact ⟨⟨false, rfl, fun h => (by cases h), fun h => absurd h (AllEq.not hlt HE.out)⟩, by repeat first | exact HB.out | refine below_drewN ?_ _ | refine Below.alloc ?_ (by have := HB.out.size; first | omega | (simp; omega)) _⟩
        · have hg1 : g1 < w.heap.size := RamAt.lt ⟨m, pg, H.out, rfl⟩ (.inr ⟨k, hp1⟩)
          obtain ⟨ra, oa⟩ := page_row ((HB.out.block g1 hg1).trans (H.out.page k g1 hp1))
          have hga : g1 < wr.heap.size := by have := HB.out.size; omega
          clear hl1 hl2 e1 f1 r0 q0 hp1 hp2
          have hzs := zero_size
          go_upto_region 11 with fail
          generalize Tryz.zeroCells139 = Z at hE hzs ⊢
          go_quiet (fail)
          go_wp2_with fail
          go_ret
          exact ⟨⟨false, rfl, fun h => (by cases h), fun h => absurd h (AllEq.not hlt HE.out)⟩, by repeat first | exact HB.out | refine below_drewN ?_ _ | refine Below.alloc ?_ (by have := HB.out.size; first | omega | (simp; omega)) _⟩
        · have hg1 : g1 < w.heap.size := RamAt.lt ⟨m, pg, H.out, rfl⟩ (.inr ⟨k, hp1⟩)
          obtain ⟨ra, oa⟩ := page_row ((HB.out.block g1 hg1).trans (H.out.page k g1 hp1))
          have hga : g1 < wr.heap.size := by have := HB.out.size; omega
          have hg2 : g2 < w.heap.size := RamAt.lt ⟨m2, pg2, H2.out, rfl⟩ (.inr ⟨k, hp2⟩)
          obtain ⟨rb, ob⟩ := page_row ((HB.out.block g2 hg2).trans (H2.out.page k g2 hp2))
          have hgb : g2 < wr.heap.size := by have := HB.out.size; omega
          clear hl1 hl2 e1 f1 r0 q0 hp1 hp2
          go_wp2_with fail
          go_quiet (fail)
          go_wp2_with fail
          go_ret
          exact ⟨⟨false, rfl, fun h => (by cases h), fun h => absurd h (AllEq.not hlt HE.out)⟩, by repeat first | exact HB.out | refine below_drewN ?_ _ | refine Below.alloc ?_ (by have := HB.out.size; first | omega | (simp; omega)) _⟩
    · obtain rfl : k = n := by omega
      have e0 : wr.cell? ⟨b, 0, none⟩ = some (.int .i64 k) := blk_cell ((HB.out.block b hbl).trans H.out.at_) 0
      have f0 : wr.cell? ⟨b2, 0, none⟩ = some (.int .i64 k) := blk_cell ((HB.out.block b2 hbl2).trans H2.out.at_) 0
      go_wp2_with fail
      go_quiet (fail)
      go_wp2_with fail
      go_ret
      exact ⟨⟨true, rfl, fun _ => HALL.out, fun _ => rfl⟩, by first | exact below_drewN HB.out _ | exact HB.out⟩
end Go.Proofs.YtkogjjeoihnjpaaGreat
end
section
set_option linter.unusedVariables false
set_option linter.unusedSimpArgs false
namespace Go.Proofs.YtkogjjeoihnjpaaGreat
open Go.RowKit Sx
set_option maxRecDepth 100000
/-- a machine: its hart, its memory -/
structure Mac (w : World) (N p b : Nat) (S : Nat → Prop) (h : List Int) (ct : Nat → Nat) : Prop where
  mach : MachAt w p b (cksV hartC h)
  ram : RamAt w b N ct S
  hart : InB hartR h
  may : KsOk (env0 h) mayK
  ap : p ≠ b ∧ ¬ S p
/-- its blocks -/
def macS (p b : Nat) (S : Nat → Prop) (g : Nat) : Prop := g = p ∨ g = b ∨ S g
theorem Mac.lt {w : World} {N p b : Nat} {S : Nat → Prop} {h : List Int} {ct : Nat → Nat} (k : Mac w N p b S h ct) : ∀ g, macS p b S g → g < w.heap.size := by
  rintro g (rfl | rfl | hg)
  · exact blk_lt k.mach.2
  · exact k.ram.self.2
  · exact k.ram.lt hg
theorem Mac.turned {w w' : World} {N p b : Nat} {S T : Nat → Prop} {h : List Int} {ct : Nat → Nat} (k : Mac w N p b S h ct) (ht : Turned T w w') (hT : ∀ g, macS p b S g → ¬ T g) : Mac w' N p b S h ct :=
  ⟨⟨k.mach.1, (ht.block p (k.lt p (.inl rfl)) (hT p (.inl rfl))).trans k.mach.2⟩, k.ram.turned ht (hT b (.inr (.inl rfl))) (fun g hg => hT g (.inr (.inr hg))), k.hart, k.may, k.ap⟩
theorem Mac.on {w w' : World} {N p b : Nat} {S : Nat → Prop} {h : List Int} {ct : Nat → Nat} (k : Mac w N p b S h ct) (hb : Below w.heap.size w w') : Mac w' N p b S h ct :=
  k.turned (T := fun _ => False) (.of_below hb _) (fun _ _ => id)
noncomputable section
/-- a step, as numbers: what hart, what memory -/
def stpN (N : Nat) (e : List Int) (s : List Int × (Nat → Nat)) : List Int × (Nat → Nat) :=
  ((stpF s.2 (s.1 ++ e ++ [(N : Int)])).take 66, putsL N s.2 ((stpF s.2 (s.1 ++ e ++ [(N : Int)])).drop 78))
/-- its record -/
def stpR (N : Nat) (e : List Int) (s : List Int × (Nat → Nat)) : List Int := (stpF s.2 (s.1 ++ e ++ [(N : Int)])).drop 66
/-- many -/
def runN (N : Nat) (evs : Nat → List Int) (s : List Int × (Nat → Nat)) : Nat → List Int × (Nat → Nat)
  | 0 => s
  | i + 1 => stpN N (evs i) (runN N evs s i)
end
theorem Mac.step {w : World} {N p b : Nat} {S : Nat → Prop} {s : List Int × (Nat → Nat)} (k : Mac w N p b S s.1 s.2) {ev : List Int} (he : InB envR ev) :
    Calls Tryz.prog 16 #[.pointer (some ⟨p, 0, none⟩), .agg (cksV envC ev).toArray] w fun e w' => ∃ S', e = .returned (.agg (recA (stpR N ev s))) ∧ Mac w' N p b S' (stpN N ev s).1 (stpN N ev s).2 ∧ (∀ g, S' g → S g ∨ w.heap.size ≤ g) ∧ Turned (macS p b S) w w' ∧ StepFacts s.1 ev (stpF s.2 (s.1 ++ ev ++ [(N : Int)])) ∧ InB recPR (stpR N ev s) := by
  obtain ⟨h, ct⟩ := s
  obtain ⟨⟨k1, k2⟩, k3⟩ := step_told k.hart he k.may k.mach k.ram k.ap.1 k.ap.2
  have hf := stepFacts k.hart he k1 k2
  have hr : InB recPR (stpR N ev (h, ct)) := inB_drop (rs := hartR) (by unfold stpOrs at k1; rw [List.append_assoc] at k1; exact k1)
  refine k3.mono ?_
  rintro e w' ⟨rfl, ⟨S', t1, t2, t3⟩, t4⟩
  show ∃ S', _
  unfold stpN stpR
  unfold stpR at hr
  generalize hF : stpF ct (h ++ ev ++ [(N : Int)]) = F at *
  have ht : cksV hartC F = cksV hartC (F.take 66) := by
    conv => lhs; rw [← List.take_append_drop 66 F]
    exact cksV_more hartC _ _ (by rw [List.length_take, hf.len]; decide)
  rw [ht] at t4
  simp only at *
  refine ⟨S', rfl, ⟨t4, t1, hf.hart, hf.may, k.ap.1, fun hs => ?_⟩, t3, t2, hf, hr⟩
  rcases t3 p hs with hs | hs
  · exact k.ap.2 hs
  · have := k.lt p (.inl rfl); omega
/-- two machines and the pair that the law holds; all above what was there -/
structure Tw (W wr : World) (N q mq p b : Nat) (S : Nat → Prop) (s : List Int × (Nat → Nat)) (p2 b2 : Nat) (S2 : Nat → Prop) (s2 : List Int × (Nat → Nat)) : Prop where
  pair : wr.heap[q]? = some (.cells #[.pointer (some ⟨p, 0, none⟩), .pointer (some ⟨mq, 0, none⟩)] 34 (0, 0))
  one : Mac wr N p b S s.1 s.2
  two : Mac wr N p2 b2 S2 s2.1 s2.2
  ap : ∀ g, macS p b S g → ¬ macS p2 b2 S2 g
  apq : ¬ macS p b S q ∧ ¬ macS p2 b2 S2 q
  up : (∀ g, macS p b S g → W.heap.size ≤ g) ∧ (∀ g, macS p2 b2 S2 g → W.heap.size ≤ g) ∧ W.heap.size ≤ q
  below : Below W.heap.size W wr
/-- blocks turn that are none of theirs -/
theorem Tw.turned {W wr w' : World} {N q mq p b p2 b2 : Nat} {S S2 T : Nat → Prop} {s s2 : List Int × (Nat → Nat)} (k : Tw W wr N q mq p b S s p2 b2 S2 s2) (ht : Turned T wr w') (h1 : ∀ g, macS p b S g → ¬ T g) (h2 : ∀ g, macS p2 b2 S2 g → ¬ T g) (hq : ¬ T q) (hW : ∀ g, T g → W.heap.size ≤ g) : Tw W w' N q mq p b S s p2 b2 S2 s2 :=
  ⟨(ht.block q (blk_lt k.pair) hq).trans k.pair, k.one.turned ht h1, k.two.turned ht h2, k.ap, k.apq, k.up, k.below.trans (ht.below k.below.size hW)⟩
theorem Tw.on {W wr w' : World} {N q mq p b p2 b2 : Nat} {S S2 : Nat → Prop} {s s2 : List Int × (Nat → Nat)} (k : Tw W wr N q mq p b S s p2 b2 S2 s2) (hb : Below wr.heap.size wr w') : Tw W w' N q mq p b S s p2 b2 S2 s2 :=
  k.turned (T := fun _ => False) (.of_below hb _) (fun _ _ => id) (fun _ _ => id) id (fun _ h => h.elim)
/-- a step of the one -/
theorem Tw.stepA {W wr : World} {N q mq p b p2 b2 : Nat} {S S2 : Nat → Prop} {s s2 : List Int × (Nat → Nat)} (k : Tw W wr N q mq p b S s p2 b2 S2 s2) {ev : List Int} (he : InB envR ev) :
    Calls Tryz.prog 16 #[.pointer (some ⟨p, 0, none⟩), .agg (cksV envC ev).toArray] wr fun e w' => ∃ S', e = .returned (.agg (recA (stpR N ev s))) ∧ Tw W w' N q mq p b S' (stpN N ev s) p2 b2 S2 s2 ∧ (∀ g, S' g → S g ∨ wr.heap.size ≤ g) ∧ Turned (macS p b S) wr w' ∧ InB recPR (stpR N ev s) := by
  refine (k.one.step he).mono ?_
  rintro e w' ⟨S', rfl, m1, m2, m3, m4, m5⟩
  have hsz := k.below.size
  have l2 := k.two.lt
  have lq := blk_lt k.pair
  have hm : ∀ g, macS p b S' g → macS p b S g ∨ wr.heap.size ≤ g := by
    rintro g (e | e | e)
    · exact .inl (.inl e)
    · exact .inl (.inr (.inl e))
    · rcases m2 g e with e | e
      · exact .inl (.inr (.inr e))
      · exact .inr e
  refine ⟨S', rfl, ⟨(m3.block q lq k.apq.1).trans k.pair, m1, k.two.turned m3 (fun g hg h1 => k.ap g h1 hg), fun g hg h2 => ?_, ⟨fun h => ?_, k.apq.2⟩, ⟨fun g hg => ?_, k.up.2⟩, k.below.trans (m3.below hsz k.up.1)⟩, m2, m3, m5⟩
  · rcases hm g hg with h | h
    · exact k.ap g h h2
    · have := l2 g h2; omega
  · rcases hm q h with h | h
    · exact k.apq.1 h
    · omega
  · rcases hm g hg with h | h
    · exact k.up.1 g h
    · omega
/-- a step of the other -/
theorem Tw.stepB {W wr : World} {N q mq p b p2 b2 : Nat} {S S2 : Nat → Prop} {s s2 : List Int × (Nat → Nat)} (k : Tw W wr N q mq p b S s p2 b2 S2 s2) {ev : List Int} (he : InB envR ev) :
    Calls Tryz.prog 16 #[.pointer (some ⟨p2, 0, none⟩), .agg (cksV envC ev).toArray] wr fun e w' => ∃ S', e = .returned (.agg (recA (stpR N ev s2))) ∧ Tw W w' N q mq p b S s p2 b2 S' (stpN N ev s2) ∧ (∀ g, S' g → S2 g ∨ wr.heap.size ≤ g) ∧ Turned (macS p2 b2 S2) wr w' ∧ InB recPR (stpR N ev s2) := by
  refine (k.two.step he).mono ?_
  rintro e w' ⟨S', rfl, m1, m2, m3, m4, m5⟩
  have hsz := k.below.size
  have l2 := k.one.lt
  have lq := blk_lt k.pair
  have hm : ∀ g, macS p2 b2 S' g → macS p2 b2 S2 g ∨ wr.heap.size ≤ g := by
    rintro g (e | e | e)
    · exact .inl (.inl e)
    · exact .inl (.inr (.inl e))
    · rcases m2 g e with e | e
      · exact .inl (.inr (.inr e))
      · exact .inr e
  refine ⟨S', rfl, ⟨(m3.block q lq k.apq.2).trans k.pair, k.one.turned m3 (fun g hg h1 => k.ap g hg h1), m1, fun g hg h2 => ?_, ⟨k.apq.1, fun h => ?_⟩, ⟨k.up.1, fun g hg => ?_, k.up.2.2⟩, k.below.trans (m3.below hsz k.up.2.1)⟩, m2, m3, m5⟩
  · rcases hm g h2 with h | h
    · exact k.ap g hg h
    · have := l2 g hg; omega
  · rcases hm q h with h | h
    · exact k.apq.2 h
    · omega
  · rcases hm g hg with h | h
    · exact k.up.2.1 g h
    · omega
/-! ### records that were kept -/
def toldL (R : Nat → List Int) (j : Nat) : List Value := (List.range j).flatMap fun i => cksV recC (R i)
theorem toldL_len (R : Nat → List Int) : ∀ j, (toldL R j).length = j * 12
  | 0 => rfl
  | j + 1 => by
    have := toldL_len R j
    unfold toldL at this ⊢
    rw [List.range_succ, List.flatMap_append, List.length_append, this]
    simp only [List.flatMap_cons, List.flatMap_nil, List.append_nil, cksV_len]
    show j * 12 + 12 = _
    omega
theorem toldL_succ (R : Nat → List Int) (j : Nat) : toldL R (j + 1) = toldL R j ++ cksV recC (R j) := by
  unfold toldL
  rw [List.range_succ, List.flatMap_append]
  simp
theorem toldL_get (R : Nat → List Int) (i t : Nat) (ht : t < 12) : ∀ j, i < j → (toldL R j)[i * 12 + t]? = (cksV recC (R i))[t]?
  | 0, h => by omega
  | j + 1, h => by
    rw [toldL_succ]
    by_cases e : i < j
    · rw [List.getElem?_append_left (by rw [toldL_len]; omega)]
      exact toldL_get R i t ht j e
    · obtain rfl : i = j := by omega
      rw [List.getElem?_append_right (by rw [toldL_len]; omega), toldL_len]
      rw [show i * 12 + t - i * 12 = t by omega]
def ToldIs (w : World) (B : Nat) (v : Value) (j : Nat) (R : Nat → List Int) : Prop := w.ownsRow B 30 12 v j (toldL R j)
theorem ToldIs.range {w : World} {B : Nat} {v : Value} {j : Nat} {R : Nat → List Int} (h : ToldIs w B v j R) {i : Nat} (hi : i < j) : ∃ g cap, v = .slice (some ⟨g, 0, none⟩) j cap ∧ v.ownBlock = some g ∧ ∀ w' : World, w'.heap[g]? = w.heap[g]? → w'.rangeAt g (i * 12) (cksV recC (R i)) := by
  have h' : w.ownsRow B 30 12 v j (toldL R j) := h
  rcases h'.2 with ⟨_, h0⟩ | ⟨g, cap, cur, rfl, h1, h2, h3⟩
  · omega
  · refine ⟨g, cap, rfl, rfl, fun w' hw t u hu => ?_⟩
    have ht : t < 12 := by
      have := (List.getElem?_eq_some_iff.1 hu).1
      rw [cksV_len] at this; exact this
    have hc := h'.cells rfl (i * 12 + t) u (by rw [toldL_get R i t ht j hi]; exact hu)
    rw [addr_add, Nat.zero_add] at hc
    rw [← hc]
    exact World.cell?_of_block hw
end Go.Proofs.YtkogjjeoihnjpaaGreat
end
section
set_option linter.unusedVariables false
set_option linter.unusedSimpArgs false
namespace Go.Proofs.YtkogjjeoihnjpaaGreat
open Go.RowKit Sx
set_option maxRecDepth 100000
def loadH (x : Value) : Sem Value := Instr.loadAt 43 x
theorem ld_hartM (x : Value) : Instr.loadAt 43 x = loadH x := rfl
theorem rl_hartM {w : World} {p b : Nat} {h : List Int} (hm : MachAt w p b (cksV hartC h)) : (loadH (.pointer (some ⟨p, 0, none⟩))).run Tryz.prog w = .ok (.agg (hartA h)) w :=
  run_loadAt_mid (P := Tryz.prog) w p 0 43 (cksV hartC h) _ hm.range Tryz.underlying43 rfl (by rw [cksV_len]; kernel_rfl)
theorem mach_ram {w : World} {p b : Nat} {h : List Int} (hm : MachAt w p b (cksV hartC h)) : w.cell? ⟨p, 66, none⟩ = some (.pointer (some ⟨b, 0, none⟩)) := by
  rw [blk_cell hm.2 66]
  simp only [List.getElem?_toArray]
  rw [List.getElem?_append_right (by rw [cksV_len]; decide), cksV_len]
  rfl
def RamMade (w : World) (N : Nat) (ct : Nat → Nat) (e : Ending) (w' : World) : Prop := ∃ rb S, e = .returned (.pointer (some ⟨rb, 0, none⟩)) ∧ RamAt w' rb N ct S ∧ (∀ g, g = rb ∨ S g → w.heap.size ≤ g) ∧ Below w.heap.size w w'
theorem ram_fork_at {w : World} {b N : Nat} {ct : Nat → Nat} {S : Nat → Prop} (h : RamAt w b N ct S) : Calls Tryz.prog 74 #[.pointer (some ⟨b, 0, none⟩)] w (RamMade w N ct) := by
  obtain ⟨m, pg, h1, h2⟩ := h
  refine (ram_fork h1).mono ?_
  rintro e w' ⟨rfl, hb, S, hr, hS⟩
  refine ⟨_, S, rfl, hr, ?_, hb⟩
  rintro g (rfl | hg)
  · omega
  · exact hS g hg
theorem isa_ram {w : World} {p b N : Nat} {h : List Int} {ct : Nat → Nat} {S : Nat → Prop} (hm : MachAt w p b (cksV hartC h)) (hr : RamAt w b N ct S) : Calls Tryz.prog 29 #[.pointer (some ⟨p, 0, none⟩)] w (RamMade w N ct) := by
  have c66 := mach_ram hm
  have HR := Lib.hid (ram_fork_at hr)
  clear hm hr
  go_enter Tryz.func29, Tryz.ntmps29
  go_wp2_with fail
  refine HR.out.mono ?_
  rintro e w' ⟨rb, S', rfl, h1, h2, h3⟩
  have H := Lib.hid (And.intro h1 (And.intro h2 h3))
  clear h1 h2 h3 HR
  go_wp2_with fail
  go_ret
  exact ⟨rb, S', rfl, H.out.1, H.out.2.1, H.out.2.2⟩
def hl (f : Nat → Int) : List Int := (List.range 66).map f
theorem hl_of {h : List Int} (hh : h.length = 66) : ∃ f, h = hl f := by
  refine ⟨fun i => h.getD i 0, ?_⟩
  refine List.ext_getElem? fun j => ?_
  unfold hl
  rw [List.getElem?_map]
  by_cases e : j < 66
  · rw [List.getElem?_range e, Option.map_some]
    simp only [List.getD]
    rw [List.getElem?_eq_getElem (by omega)]
    rfl
  · rw [List.getElem?_eq_none (by omega)]
    rw [List.getElem?_eq_none (by rw [List.length_range]; omega)]
    rfl
def machA (f : Nat → Int) (b : Nat) : Array Value := (cksV hartC (hl f) ++ [Value.pointer (some ⟨b, 0, none⟩)]).toArray
theorem built_mach (f : Nat → Int) (b : Nat) : Tryz.prog.built 94 [(0, .agg (hartA (hl f))), (1, .pointer (some ⟨b, 0, none⟩))] = some (machA f b) := by kernel_rfl
def Forked (w : World) (N : Nat) (h : List Int) (ct : Nat → Nat) (e : Ending) (w' : World) : Prop := ∃ p2 b2 S2, e = .returned (.pointer (some ⟨p2, 0, none⟩)) ∧ Mac w' N p2 b2 S2 h ct ∧ (∀ g, macS p2 b2 S2 g → w.heap.size ≤ g) ∧ Below w.heap.size w w'
attribute [local go_sem ↓] ld_hartM
set_option maxHeartbeats 2000000 in
theorem isa_fork {w : World} {N p b : Nat} {S : Nat → Prop} {h : List Int} {ct : Nat → Nat} (k : Mac w N p b S h ct) : Calls Tryz.prog 32 #[.pointer (some ⟨p, 0, none⟩)] w (Forked w N h ct) := by
  obtain ⟨f, rfl⟩ := hl_of k.hart.1
  have HK := Lib.hid k
  clear k
  go_enter Tryz.func32, Tryz.ntmps32
  go_wp2_with fail
  refine wp_region_held_drew (S := fun wq => wq.heap[p]? = some (.cells (machA f b) 94 (0, 0))) (by kernel_rfl) HK.out.mach.2 (fun hH => ?_)
  refine wpAnyH_take (i := 0) (oi := ⟨some 5, _, _, _, _, _⟩) (v := ?_) rfl (by kernel_rfl) (by kernel_rfl) (by kernel_rfl) (fun _ _ _ h => h) (Or.inl ⟨by kernel_rfl, ?_⟩) hH ?_
  rotate_left 1
  · intro wq hq; have hma : MachAt wq p b (cksV hartC (hl f)) := ⟨by rw [cksV_len]; rfl, hq⟩; have r0 := rl_hartM hma; have r1 := mach_ram hma; clear hma hq; first | (go_simp; done) | (go_simp; with_reducible rfl)
  simp only [Act.put, List.setIfInBounds_toArray, List.set_cons_zero, List.set_cons_succ]
  refine wpAnyH_take (i := 1) (oi := ⟨some 6, _, _, _, _, _⟩) (v := ?_) rfl (by kernel_rfl) (by kernel_rfl) (by kernel_rfl) (fun _ _ _ h => h) (Or.inl ⟨by kernel_rfl, ?_⟩) hH ?_
  rotate_left 1
  · intro wq hq; have hma : MachAt wq p b (cksV hartC (hl f)) := ⟨by rw [cksV_len]; rfl, hq⟩; have r0 := rl_hartM hma; have r1 := mach_ram hma; clear hma hq; first | (go_simp; done) | (go_simp; with_reducible rfl)
  simp only [Act.put, List.setIfInBounds_toArray, List.set_cons_zero, List.set_cons_succ]
  refine wpAnyH_take (i := 2) (oi := ⟨some 7, _, _, _, _, _⟩) (v := ?_) rfl (by kernel_rfl) (by kernel_rfl) (by kernel_rfl) (fun _ _ _ h => h) (Or.inl ⟨by kernel_rfl, ?_⟩) hH ?_
  rotate_left 1
  · intro wq hq; have hma : MachAt wq p b (cksV hartC (hl f)) := ⟨by rw [cksV_len]; rfl, hq⟩; have r0 := rl_hartM hma; have r1 := mach_ram hma; clear hma hq; first | (go_simp; done) | (go_simp; with_reducible rfl)
  simp only [Act.put, List.setIfInBounds_toArray, List.set_cons_zero, List.set_cons_succ]
  refine wpAnyH_take (i := 3) (oi := ⟨some 8, _, _, _, _, _⟩) (v := ?_) rfl (by kernel_rfl) (by kernel_rfl) (by kernel_rfl) (fun _ _ _ h => h) (Or.inl ⟨by kernel_rfl, ?_⟩) hH ?_
  rotate_left 1
  · intro wq hq; have hma : MachAt wq p b (cksV hartC (hl f)) := ⟨by rw [cksV_len]; rfl, hq⟩; have r0 := rl_hartM hma; have r1 := mach_ram hma; clear hma hq; first | (go_simp; done) | (go_simp; with_reducible rfl)
  simp only [Act.put, List.setIfInBounds_toArray, List.set_cons_zero, List.set_cons_succ]
  refine wpAnyH_take (i := 4) (oi := ⟨some 9, _, _, _, _, _⟩) (v := ?_) rfl (by kernel_rfl) (by kernel_rfl) (by kernel_rfl) (fun _ _ _ h => h) (Or.inl ⟨by kernel_rfl, ?_⟩) hH ?_
  rotate_left 1
  · intro wq hq; have hma : MachAt wq p b (cksV hartC (hl f)) := ⟨by rw [cksV_len]; rfl, hq⟩; have r0 := rl_hartM hma; have r1 := mach_ram hma; clear hma hq; first | (go_simp; done) | (go_simp; with_reducible rfl)
  simp only [Act.put, List.setIfInBounds_toArray, List.set_cons_zero, List.set_cons_succ]
  refine wpAnyH_take (i := 5) (oi := ⟨some 10, _, _, _, _, _⟩) (v := ?_) rfl (by kernel_rfl) (by kernel_rfl) (by kernel_rfl) (fun _ _ _ h => h) (Or.inl ⟨by kernel_rfl, ?_⟩) hH ?_
  rotate_left 1
  · intro wq hq; have hma : MachAt wq p b (cksV hartC (hl f)) := ⟨by rw [cksV_len]; rfl, hq⟩; have r0 := rl_hartM hma; have r1 := mach_ram hma; clear hma hq; first | (go_simp; done) | (go_simp; with_reducible rfl)
  simp only [Act.put, List.setIfInBounds_toArray, List.set_cons_zero, List.set_cons_succ]
  refine wpAnyH_take (i := 6) (oi := ⟨some 11, _, _, _, _, _⟩) (v := ?_) rfl (by kernel_rfl) (by kernel_rfl) (by kernel_rfl) (fun _ _ _ h => h) (Or.inl ⟨by kernel_rfl, ?_⟩) hH ?_
  rotate_left 1
  · intro wq hq; have hma : MachAt wq p b (cksV hartC (hl f)) := ⟨by rw [cksV_len]; rfl, hq⟩; have r0 := rl_hartM hma; have r1 := mach_ram hma; clear hma hq; first | (go_simp; done) | (go_simp; with_reducible rfl)
  simp only [Act.put, List.setIfInBounds_toArray, List.set_cons_zero, List.set_cons_succ]
  refine wpAnyH_take (i := 7) (oi := ⟨some 12, _, _, _, _, _⟩) (v := ?_) rfl (by kernel_rfl) (by kernel_rfl) (by kernel_rfl) (fun _ _ _ h => h) (Or.inl ⟨by kernel_rfl, ?_⟩) hH ?_
  rotate_left 1
  · intro wq hq; have hma : MachAt wq p b (cksV hartC (hl f)) := ⟨by rw [cksV_len]; rfl, hq⟩; have r0 := rl_hartM hma; have r1 := mach_ram hma; clear hma hq; first | (go_simp; done) | (go_simp; with_reducible rfl)
  simp only [Act.put, List.setIfInBounds_toArray, List.set_cons_zero, List.set_cons_succ]
  refine wpAnyH_ready (rs := [8]) (by kernel_rfl) (by simp) (AllReadyH.cons (o := ⟨some 13, _, _, _, _, _⟩) rfl (fun K hK => ?_) AllReadyH.nil)
  go_simp
  refine (ram_fork_at (HK.out.ram.below (Below.refl _ _).drew)).mono ?_
  rintro e w1 ⟨rb, S2, rfl, hr2, hS2, hb2⟩
  have HR2 := Lib.hid hr2; have HS2 := Lib.hid hS2; have HB2 : Hid (Below w.heap.size w w1) := (Below.refl _ _).drew.trans hb2
  clear hr2 hS2 hb2
  go_wp2_with fail
  refine hK.out _ _ ((HB2.out.block p (HK.out.lt p (.inl rfl))).trans HK.out.mach.2) (fun hH => ?_)
  clear hK K
  try simp only [Act.put, List.setIfInBounds_toArray, List.set_cons_zero, List.set_cons_succ]
  refine wpAnyH_take (i := 9) (oi := ⟨some 14, _, _, _, _, _⟩) (v := .agg (machA f rb)) rfl (by kernel_rfl) (by kernel_rfl) (by kernel_rfl) (fun _ _ _ h => h) (Or.inl ⟨by kernel_rfl, ?_⟩) hH ?_
  · intro wq hq; kernel_rfl
  simp only [Act.put, List.setIfInBounds_toArray, List.set_cons_zero, List.set_cons_succ]
  refine wpAnyH_ready (rs := [10]) (by kernel_rfl) (by simp) (AllReadyH.cons (o := ⟨some 15, _, _, _, _, _⟩) rfl (fun K hK => ?_) AllReadyH.nil)
  go_simp
  
  refine hK.out _ _ ((((Below.refl _ _).alloc (Nat.le_refl _) _).block p (by have := HK.out.lt p (.inl rfl); have := HB2.out.size; omega)).trans ((HB2.out.block p (HK.out.lt p (.inl rfl))).trans HK.out.mach.2)) (fun hH => ?_)
  clear hK K
  try simp only [Act.put, List.setIfInBounds_toArray, List.set_cons_zero, List.set_cons_succ]
  refine wpAnyH_take (i := 11) (oi := ⟨some 2, _, _, _, _, _⟩) (v := ?_) rfl (by kernel_rfl) (by kernel_rfl) (by kernel_rfl) (fun _ _ _ h => h) (Or.inl ⟨by kernel_rfl, ?_⟩) hH ?_
  rotate_left 1
  · intro wq hq; have hma : MachAt wq p b (cksV hartC (hl f)) := ⟨by rw [cksV_len]; rfl, hq⟩; have r0 := rl_hartM hma; have r1 := mach_ram hma; clear hma hq; first | (go_simp; done) | (go_simp; with_reducible rfl)
  simp only [Act.put, List.setIfInBounds_toArray, List.set_cons_zero, List.set_cons_succ]
  refine wpAnyH_done (by kernel_rfl) ?_ _
  clear hH
  go_wp2_with fail
  go_ret
  have hs1 : w.heap.size ≤ w1.heap.size := HB2.out.size
  have hal := (Below.refl w1.heap.size w1).alloc (Nat.le_refl _) (Obj.cells (machA f rb) 94)
  have hlt : rb < w1.heap.size ∧ ∀ g, S2 g → g < w1.heap.size := ⟨HR2.out.self.2, fun g hg => HR2.out.lt hg⟩
  have hge : ∀ g, g = rb ∨ S2 g → w.heap.size ≤ g := HS2.out
  refine ⟨w1.heap.size, rb, S2, rfl, ⟨⟨by rw [cksV_len]; rfl, blk_alloc _ _⟩, HR2.out.below hal, HK.out.hart, HK.out.may, by omega, fun h => by have := hlt.2 _ h; omega⟩, ?_, HB2.out.alloc hs1 _⟩
  rintro g (rfl | rfl | hg)
  · exact hs1
  · exact hge _ (.inl rfl)
  · exact hge _ (.inr hg)
end Go.Proofs.YtkogjjeoihnjpaaGreat
end
section
set_option linter.unusedVariables false
set_option linter.unusedSimpArgs false
namespace Go.Proofs.YtkogjjeoihnjpaaGreat
open Go.RowKit Sx
set_option maxRecDepth 100000
/-- what stays beside the machines: the records that were kept, the hart that was before -/
structure Tld (W wr : World) (gh : Nat) (h1 : List Int) (q p b : Nat) (S : Nat → Prop) (p2 b2 : Nat) (S2 : Nat → Prop) (v : Value) (j : Nat) (R : Nat → List Int) : Prop where
  told : ToldIs wr W.heap.size v j R
  ap : ∀ g, v.ownBlock = some g → ¬ macS p b S g ∧ ¬ macS p2 b2 S2 g ∧ g ≠ q ∧ g ≠ gh
  bef : wr.heap[gh]? = some (.cells (hartA h1) 43 (0, 0))
  ap2 : ¬ macS p b S gh ∧ ¬ macS p2 b2 S2 gh ∧ gh ≠ q
  up : W.heap.size ≤ gh
theorem ownT {w w' : World} {S : Nat → Prop} {base : Nat} {e : TypeId} {size : Nat} {v : Value} {n : Nat} {xs : List Value} (h : w.ownsRow base e size v n xs) (ht : Turned S w w') (hd : ∀ g, v.ownBlock = some g → ¬ S g) : w'.ownsRow base e size v n xs := by
  obtain ⟨h1, ⟨rfl, h2⟩ | ⟨g', cap, cur, rfl, h2, h3, h4⟩⟩ := h
  · exact ⟨h1, .inl ⟨rfl, h2⟩⟩
  · exact ⟨h1, .inr ⟨g', cap, cur, rfl, h2, ht.keep (hd g' rfl) h3, h4⟩⟩
theorem Tld.turnA {W wr w' : World} {gh q p b p2 b2 j : Nat} {h1 : List Int} {S S' S2 : Nat → Prop} {v : Value} {R : Nat → List Int} (k : Tld W wr gh h1 q p b S p2 b2 S2 v j R) (ht : Turned (macS p b S) wr w') (hS : ∀ g, S' g → S g ∨ wr.heap.size ≤ g) : Tld W w' gh h1 q p b S' p2 b2 S2 v j R := by
  have hm : ∀ g, macS p b S' g → macS p b S g ∨ wr.heap.size ≤ g := by
    rintro g (e | e | e)
    · exact .inl (.inl e)
    · exact .inl (.inr (.inl e))
    · rcases hS g e with e | e
      · exact .inl (.inr (.inr e))
      · exact .inr e
  have hlt := k.told.lt
  have hgl := blk_lt k.bef
  refine ⟨ownT k.told ht fun g hg => (k.ap g hg).1, fun g hg => ⟨fun h => ?_, (k.ap g hg).2⟩, (ht.block gh hgl k.ap2.1).trans k.bef, ⟨fun h => ?_, k.ap2.2⟩, k.up⟩
  · rcases hm g h with h | h
    · exact (k.ap g hg).1 h
    · have := (hlt g hg).2; omega
  · rcases hm gh h with h | h
    · exact k.ap2.1 h
    · omega
theorem Tld.turnB {W wr w' : World} {gh q p b p2 b2 j : Nat} {h1 : List Int} {S S' S2 : Nat → Prop} {v : Value} {R : Nat → List Int} (k : Tld W wr gh h1 q p b S p2 b2 S2 v j R) (ht : Turned (macS p2 b2 S2) wr w') (hS : ∀ g, S' g → S2 g ∨ wr.heap.size ≤ g) : Tld W w' gh h1 q p b S p2 b2 S' v j R := by
  have hm : ∀ g, macS p2 b2 S' g → macS p2 b2 S2 g ∨ wr.heap.size ≤ g := by
    rintro g (e | e | e)
    · exact .inl (.inl e)
    · exact .inl (.inr (.inl e))
    · rcases hS g e with e | e
      · exact .inl (.inr (.inr e))
      · exact .inr e
  have hlt := k.told.lt
  have hgl := blk_lt k.bef
  refine ⟨ownT k.told ht fun g hg => (k.ap g hg).2.1, fun g hg => ⟨(k.ap g hg).1, fun h => ?_, (k.ap g hg).2.2⟩, (ht.block gh hgl k.ap2.2.1).trans k.bef, ⟨k.ap2.1, fun h => ?_, k.ap2.2.2⟩, k.up⟩
  · rcases hm g h with h | h
    · exact (k.ap g hg).2.1 h
    · have := (hlt g hg).2; omega
  · rcases hm gh h with h | h
    · exact k.ap2.2.1 h
    · omega
theorem Tld.on {W wr w' : World} {gh q p b p2 b2 j : Nat} {h1 : List Int} {S S2 : Nat → Prop} {v : Value} {R : Nat → List Int} (k : Tld W wr gh h1 q p b S p2 b2 S2 v j R) (hb : Below wr.heap.size wr w') : Tld W w' gh h1 q p b S p2 b2 S2 v j R :=
  ⟨ownT (S := fun _ => False) k.told (.of_below hb _) fun g hg => id, k.ap, (hb.block gh (blk_lt k.bef)).trans k.bef, k.ap2, k.up⟩
theorem Tw.of {W wr w' : World} {N q mq p b p2 b2 : Nat} {S S2 : Nat → Prop} {s : List Int × (Nat → Nat)} (k : Keep W wr N q mq p b S s.1 s.2) (h : Mac w' N p2 b2 S2 s.1 s.2) (hu : ∀ g, macS p2 b2 S2 g → wr.heap.size ≤ g) (hb : Below wr.heap.size wr w') : Tw W w' N q mq p b S s p2 b2 S2 s := by
  have k' := k.on hb
  obtain ⟨l1, l2, l3, l4⟩ := k.lt
  have hs := k.below.size
  refine ⟨k'.pair, ⟨k'.mach, k'.ram, k'.hart, k'.may, k'.ap.1, k'.ap.2.1⟩, h, ?_, ⟨?_, fun h => ?_⟩, ⟨?_, fun g hg => ?_, k.up.2.2.2⟩, k'.below⟩
  · rintro g (rfl | rfl | hg) h2
    · have := hu _ h2; omega
    · have := hu _ h2; omega
    · have := hu _ h2; have := l4 _ hg; omega
  · rintro (e | e | e)
    · exact k.ap.2.2.1 e
    · exact k.ap.2.2.2.1 e
    · exact k.ap.2.2.2.2 e
  · have := hu _ h; omega
  · rintro g (rfl | rfl | hg)
    · exact k.up.2.1
    · exact k.up.2.2.1
    · exact k.up.1 g hg
  · have := hu _ hg; omega
theorem Keep.mac {W wr : World} {N q mq p b : Nat} {S : Nat → Prop} {s : List Int × (Nat → Nat)} (k : Keep W wr N q mq p b S s.1 s.2) : Mac wr N p b S s.1 s.2 := ⟨k.mach, k.ram, k.hart, k.may, k.ap.1, k.ap.2.1⟩
theorem rec_info : (Tryz.prog.info? 30).map (fun i => (i.zero, i.size, i.bytes)) = some (some (.agg (recA (List.replicate 12 0))), 12, 88) := by kernel_rfl
theorem new_cellR (w : World) (C : Array Value) (t : TypeId) (j : Nat) (u : Value) (h : C.toList[j]? = some u) : (w.alloc (.cells C t)).cell? ((⟨w.heap.size, 0, none⟩ : Addr).add j) = some u := by
  rw [addr_add, Nat.zero_add]
  exact (blk_cell (blk_alloc _ _) j).trans (by rw [← Array.getElem?_toList]; exact h)
theorem fold_rec {RA : Array Value} (h : RA.size = 12) : Array.foldl (fun cs x => cs.setIfInBounds x.snd x.fst) #[Value.int .u64 0, .int .u64 0, .int .u32 0, .bool false, .int .u64 0, .int .u64 0, .int .i64 0, .int .u64 0, .int .i64 0, .int .u64 0, .int .i64 0, .int .u64 0] RA.zipIdx 0 12 = RA := by
  obtain ⟨f, rfl⟩ : ∃ f : Nat → Value, RA = ((List.range 12).map f).toArray := by
    refine ⟨fun i => RA.toList.getD i undef, ?_⟩
    apply Array.ext'
    refine List.ext_getElem? fun j => ?_
    have hl : RA.toList.length = 12 := h
    rw [List.getElem?_map]
    by_cases e : j < 12
    · rw [List.getElem?_range e, Option.map_some]
      simp only [List.getD]
      rw [List.getElem?_eq_getElem (by omega)]
      rfl
    · rw [List.getElem?_eq_none (by omega), List.getElem?_eq_none (by rw [List.length_range]; omega)]
      rfl
  kernel_rfl
theorem wpList_app_rec {ops : Array Oper} {rest : List Oper} {o : Oper} {a : Act} {Q : Exit → Act → World → Prop} (hgd : o.guard = none) (s x : Operand) (ho : o.op = .call { callee := .builtin .append, args := #[s, x], argTypes := #[81, 81] })
    {w0 : World} {B j : Nat} {v : Value} {R : Nat → List Int} {RA : Array Value} (hRA : RA = recA (R j)) (hs : a.eval s = v) (hown : ToldIs w0 B v j R) (hx : a.eval x = .slice (some ⟨w0.heap.size, 0, none⟩) 1 1) (hB : B ≤ w0.heap.size) (hj : j ≤ 1000)
    (h : ∀ v' w', ToldIs w' B v' (j + 1) R → (w0.alloc (.cells RA 30)).grownBy w' v.ownBlock → (v'.ownBlock = v.ownBlock ∨ v'.ownBlock = some (w0.heap.size + 1)) → wpList Tryz.prog ops Q rest (a.put o.dst v') w') :
    wpList Tryz.prog ops Q (o :: rest) a (w0.alloc (.cells RA 30)) := by
  subst hRA
  obtain ⟨i, hi, hzz⟩ := Option.map_eq_some_iff.1 rec_info
  simp only [Prod.mk.injEq] at hzz
  obtain ⟨hz, hsz, hb⟩ := hzz
  have hown' : (w0.alloc (.cells (recA (R j)) 30)).ownsRow B 30 12 v j (toldL R j) := World.ownsRow.alloc hown _
  refine wpList_append_own_at _ hgd s x 81 ho B 30 i _ 12 88 Tryz.underlying81 hi hz hsz hb (recA_size _) (by decide) v j (toldL R j) hs hown' ⟨w0.heap.size, 0, none⟩ 1 1 (cksV recC (R j)) hx (cksV_len _ _) (fun t u hu => new_cellR w0 _ _ t u hu) (cksV_one recC _) (by unfold maxLen; omega) (by omega) (by simp; omega) fun v' w' h1 h2 _ h4 => h v' w' ?_ h2 ?_
  · show w'.ownsRow B 30 12 v' (j + 1) (toldL R (j + 1))
    rw [toldL_succ]; exact h1
  · rcases h4 with h4 | h4
    · exact .inl h4
    · right; rw [h4]; simp
theorem Tld.app {W w7 w8 : World} {N gh q mq p b p2 b2 j : Nat} {h1 : List Int} {S S2 : Nat → Prop} {s s2 : List Int × (Nat → Nat)} {v v' : Value} {R : Nat → List Int} {o : Obj} (k : Tld W w7 gh h1 q p b S p2 b2 S2 v j R) (t : Tw W w7 N q mq p b S s p2 b2 S2 s2) (ht : ToldIs w8 W.heap.size v' (j + 1) R) (hg : (w7.alloc o).grownBy w8 v.ownBlock) (hv : v'.ownBlock = v.ownBlock ∨ v'.ownBlock = some (w7.heap.size + 1)) :
    Tw W w8 N q mq p b S s p2 b2 S2 s2 ∧ Tld W w8 gh h1 q p b S p2 b2 S2 v' (j + 1) R := by
  have t2 := t.on ((Below.refl w7.heap.size w7).alloc (Nat.le_refl _) o)
  have k2 := k.on ((Below.refl w7.heap.size w7).alloc (Nat.le_refl _) o)
  have htu : Turned (fun g => some g = v.ownBlock) (w7.alloc o) w8 := ⟨hg.os, hg.tape, hg.output, hg.size, fun g h1 h2 => hg.block g h1 h2⟩
  refine ⟨t2.turned htu (fun g hm e => (k.ap g e.symm).1 hm) (fun g hm e => (k.ap g e.symm).2.1 hm) (fun e => (k.ap q e.symm).2.2.1 rfl) (fun g e => (k.told.lt g e.symm).1), ht, fun g hg' => ?_, (htu.block gh (blk_lt k2.bef) (fun e => (k.ap gh e.symm).2.2.2 rfl)).trans k2.bef, k.ap2, k.up⟩
  rcases hv with hv | hv
  · exact k.ap g (hv ▸ hg')
  · rw [hv] at hg'
    cases hg'
    exact ⟨fun h => by have := t.one.lt _ h; omega, fun h => by have := t.two.lt _ h; omega, by have := blk_lt t.pair; omega, by have := blk_lt k.bef; omega⟩
theorem ram_same_at {w : World} {b b2 n : Nat} {ct : Nat → Nat} {S S2 : Nat → Prop} (h : RamAt w b n ct S) (h2 : RamAt w b2 n ct S2) : Calls Tryz.prog 33 #[.pointer (some ⟨b, 0, none⟩), .pointer (some ⟨b2, 0, none⟩)] w (Gives (.bool true) w) := by
  obtain ⟨m, pg, h, _⟩ := h
  obtain ⟨m2, pg2, h2, _⟩ := h2
  refine (ram_same h h2).mono ?_
  rintro e w' ⟨⟨v, rfl, hv⟩, hb⟩
  obtain rfl : v = true := hv.2 fun i _ => rfl
  exact ⟨rfl, hb⟩
def loadR (x : Value) : Sem Value := Instr.loadAt 30 x
theorem ld_recM (x : Value) : Instr.loadAt 30 x = loadR x := rfl
theorem rl_recM {w : World} {g o : Nat} {l : List Int} (h : w.rangeAt g o (cksV recC l)) : (loadR (.pointer (some ⟨g, o, none⟩))).run Tryz.prog w = .ok (.agg (recA l)) w :=
  run_loadAt_mid (P := Tryz.prog) w g o 30 (cksV recC l) _ h Tryz.underlying30 rfl (by rw [cksV_len]; kernel_rfl)
def eqHart (x y : Value) : Sem Bool := Op.equalIn 10000 43 x y
def eqRec (x y : Value) : Sem Bool := Op.equalIn 10000 30 x y
theorem eh1 (x y : Value) : Op.equalIn 10000 43 x y = eqHart x y := rfl
theorem eh2 (x y : Value) : Op.equal 43 x y = eqHart x y := rfl
theorem er1 (x y : Value) : Op.equalIn 10000 30 x y = eqRec x y := rfl
theorem er2 (x y : Value) : Op.equal 30 x y = eqRec x y := rfl
theorem run_eqHart {h : List Int} (hh : InB hartR h) (w : World) : (eqHart (.agg (hartA h)) (.agg (hartA h))).run Tryz.prog w = .ok true w := eq_hart hh w
theorem run_eqRec {l : List Int} (hh : InB recPR l) (w : World) : (eqRec (.agg (recA l)) (.agg (recA l))).run Tryz.prog w = .ok true w := eq_rec hh w
attribute [local go_sem ↓] st_rec st_hart ld_hart ld_env ld_recM eh1 eh2 er1 er2
attribute [local go_sem] rs_rec rs_hart rl_hart recA_ok hartA_ok recA_size hartA_size row_alloc row_drew row_drewN is_alloc is_drew is_drewN row_setCell is_setCell setRow_alloc_new objRow_cells objIs_cells row_setRow_same row_setRow_other is_setRow_same is_setRow_other
set_option maxHeartbeats 8000000 in
theorem isa_twins_walk (W : World) (n : Int) (a : Option Addr) (m c : Nat) (l : List Int) (hl : IsB W a m l) (hin : ∀ b o s, a = some ⟨b, o, s⟩ → b < W.heap.size) (hmc : m ≤ c) (ea : Option Addr) (em ec : Nat) (evs : Nat → List Int) (hev : EnvRow W ea em evs) (hem : (em : Int) ≤ 9223372036854775807) (z : Int) :
    Calls Tryz.prog 11 #[.int .i64 n, .slice a m c, .slice ea em ec, .int .i64 z] W fun e w' => e = .returned (.bool true) ∧ Below W.heap.size W w' := by
  have HMADE : Hid (∃ k l', Calls Tryz.prog 14 #[.int .i64 n, .slice a m c] W (MadeIs W (pagesN n) l' k)) := by
    by_cases hm : (m : Int) ≤ 16384
    · exact ⟨m, l, made_short n a m c W l hl hin hm⟩
    · exact ⟨16384, l.take 16384, made_long n a m c W l hl hin (by omega) hmc⟩
  have HEV := Lib.hid hev
  have HM := Lib.hid (show (em : Int) ≤ 9223372036854775807 by omega)
  clear hl hin hmc hev hem
  obtain ⟨k0, l0, hmade⟩ := HMADE.out
  obtain ⟨kk, hkk, hz⟩ : ∃ kk : Nat, kk < 100 ∧ (IntKind.u64.wrap z).tmod 100 = (kk : Int) := by
    have h0 : 0 ≤ IntKind.u64.wrap z := by rw [IntKind.wrap_u64]; omega
    refine ⟨((IntKind.u64.wrap z) % 100).toNat, by omega, ?_⟩
    rw [Int.tmod_eq_emod_of_nonneg h0]; omega
  have hz2 : wrap64 (kk : Int) = (kk : Int) := by unfold wrap64; omega
  have HKK : Hid ((kk : Int) < 100) := by show _ < _; omega
  clear hkk
  go_enter Tryz.func11, Tryz.ntmps11
  go_wp2_with fail
  refine hmade.mono ?_
  rintro e w1 ⟨q, p, b, mq, sb, S, rfl, hpair, hb⟩
  have HK := Lib.hid (Keep.of hpair hb)
  clear hpair hb hmade HMADE
  generalize pagesN n = N at *
  generalize putTo (fun _ => 0) 0 (fun i => (l0.getD i 0).toNat) (fun _ => true) k0 = ct0 at *
  obtain ⟨s0, hs0⟩ : ∃ s0 : List Int × (Nat → Nat), s0 = (hart0L, ct0) := ⟨_, rfl⟩
  have HK : Hid (Keep W w1 N q mq p b S (runN N evs s0 0).1 (runN N evs s0 0).2) := by rw [hs0]; exact HK.out
  clear hs0
  go_wp2_with fail
  refine (isa_awake _).mono ?_
  rintro e w2 ⟨rfl, hb⟩
  have HK2 := Lib.hid (HK.out.on hb)
  clear hb HK
  go_upto_block 0 with fail
  rw [hz2]
  clear hz hz2
  go_cut [11] (fun s11 wx => ∃ (k : Nat) (S : Nat → Prop), (k : Int) ≤ em ∧ (k : Int) ≤ kk ∧ (k = em ∨ k = kk) ∧ Keep W wx N q mq p b S (runN N evs s0 k).1 (runN N evs s0 k).2)
  case first =>
    go_wp2_with fail
    go_loopw [11] (fun i wr => ∃ (k : Nat) (S : Nat → Prop), (k : Int) ≤ em ∧ (k : Int) ≤ kk ∧ i = .int .i64 k ∧ Keep W wr N q mq p b S (runN N evs s0 k).1 (runN N evs s0 k).2) (fun i _ => 100 - (intOf i).toNat)
    case atStart => exact ⟨0, S, by omega, by omega, rfl, HK2.out⟩
    case round =>
      obtain ⟨k, S1, hk1, hk2, rfl, hkeep⟩ := hrel
      have HK3 := Lib.hid hkeep
      clear hkeep HK2
      by_cases hlt : (k : Int) < em
      · by_cases hlt2 : (k : Int) < kk
        · clear hk1 hk2
          obtain ⟨he, eb, eo, rfl, heb, her⟩ := HEV.out k (by omega)
          have HE := Lib.hid he
          have HRNG : Hid (∀ wq, Below W.heap.size W wq → wq.rangeAt eb (eo + k * 10) (cksV envC (evs k))) := fun wq hb => rangeAt_below her heb hb
          have HEB : Hid (eb < W.heap.size) := heb
          clear he heb her
          go_wp2_with fail
          refine wp_region_held_drew (S := fun wq => wq.heap[q]? = some (.cells #[.pointer (some ⟨p, 0, none⟩), .pointer (some ⟨mq, 0, none⟩)] 34 (0, 0)) ∧ wq.rangeAt eb (eo + k * 10) (cksV envC (evs k))) (by kernel_rfl) ⟨HK3.out.pair, HRNG.out _ HK3.out.below.drew⟩ (fun hH => ?_)
          refine wpAnyH_take (i := 0) (oi := ⟨some 41, _, _, _, _, _⟩) (v := ?_) rfl (by kernel_rfl) (by kernel_rfl) (by kernel_rfl) (fun _ _ _ h => h) (Or.inl ⟨by kernel_rfl, ?_⟩) hH ?_
          rotate_left 1
          · intro wq hq; have r0 : wq.cell? ⟨q, 0, none⟩ = some (.pointer (some ⟨p, 0, none⟩)) := blk_cell hq.1 0; have r1 := rl_env hq.2; clear hq; first | (go_simp; done) | (go_simp; with_reducible rfl)
          simp only [Act.put, List.setIfInBounds_toArray, List.set_cons_zero, List.set_cons_succ]
          refine wpAnyH_take (i := 1) (oi := ⟨some 42, _, _, _, _, _⟩) (v := ?_) rfl (by kernel_rfl) (by kernel_rfl) (by kernel_rfl) (fun _ _ _ h => h) (Or.inl ⟨by kernel_rfl, ?_⟩) hH ?_
          rotate_left 1
          · intro wq hq; have r0 : wq.cell? ⟨q, 0, none⟩ = some (.pointer (some ⟨p, 0, none⟩)) := blk_cell hq.1 0; have r1 := rl_env hq.2; clear hq; first | (go_simp; done) | (go_simp; with_reducible rfl)
          simp only [Act.put, List.setIfInBounds_toArray, List.set_cons_zero, List.set_cons_succ]
          refine wpAnyH_take (i := 2) (oi := ⟨some 43, _, _, _, _, _⟩) (v := ?_) rfl (by kernel_rfl) (by kernel_rfl) (by kernel_rfl) (fun _ _ _ h => h) (Or.inl ⟨by kernel_rfl, ?_⟩) hH ?_
          rotate_left 1
          · intro wq hq; have r0 : wq.cell? ⟨q, 0, none⟩ = some (.pointer (some ⟨p, 0, none⟩)) := blk_cell hq.1 0; have r1 := rl_env hq.2; clear hq; first | (go_simp; done) | (go_simp; with_reducible rfl)
          simp only [Act.put, List.setIfInBounds_toArray, List.set_cons_zero, List.set_cons_succ]
          refine wpAnyH_take (i := 3) (oi := ⟨some 44, _, _, _, _, _⟩) (v := ?_) rfl (by kernel_rfl) (by kernel_rfl) (by kernel_rfl) (fun _ _ _ h => h) (Or.inl ⟨by kernel_rfl, ?_⟩) hH ?_
          rotate_left 1
          · intro wq hq; have r0 : wq.cell? ⟨q, 0, none⟩ = some (.pointer (some ⟨p, 0, none⟩)) := blk_cell hq.1 0; have r1 := rl_env hq.2; clear hq; first | (go_simp; done) | (go_simp; with_reducible rfl)
          simp only [Act.put, List.setIfInBounds_toArray, List.set_cons_zero, List.set_cons_succ]
          refine wpAnyH_take (i := 4) (oi := ⟨some 45, _, _, _, _, _⟩) (v := ?_) rfl (by kernel_rfl) (by kernel_rfl) (by kernel_rfl) (fun _ _ _ h => h) (Or.inl ⟨by kernel_rfl, ?_⟩) hH ?_
          rotate_left 1
          · intro wq hq; have r0 : wq.cell? ⟨q, 0, none⟩ = some (.pointer (some ⟨p, 0, none⟩)) := blk_cell hq.1 0; have r1 := rl_env hq.2; clear hq; first | (go_simp; done) | (go_simp; with_reducible rfl)
          simp only [Act.put, List.setIfInBounds_toArray, List.set_cons_zero, List.set_cons_succ]
          refine wpAnyH_take (i := 5) (oi := ⟨some 46, _, _, _, _, _⟩) (v := ?_) rfl (by kernel_rfl) (by kernel_rfl) (by kernel_rfl) (fun _ _ _ h => h) (Or.inl ⟨by kernel_rfl, ?_⟩) hH ?_
          rotate_left 1
          · intro wq hq; have r0 : wq.cell? ⟨q, 0, none⟩ = some (.pointer (some ⟨p, 0, none⟩)) := blk_cell hq.1 0; have r1 := rl_env hq.2; clear hq; first | (go_simp; done) | (go_simp; with_reducible rfl)
          simp only [Act.put, List.setIfInBounds_toArray, List.set_cons_zero, List.set_cons_succ]
          refine wpAnyH_take (i := 6) (oi := ⟨some 47, _, _, _, _, _⟩) (v := ?_) rfl (by kernel_rfl) (by kernel_rfl) (by kernel_rfl) (fun _ _ _ h => h) (Or.inl ⟨by kernel_rfl, ?_⟩) hH ?_
          rotate_left 1
          · intro wq hq; have r0 : wq.cell? ⟨q, 0, none⟩ = some (.pointer (some ⟨p, 0, none⟩)) := blk_cell hq.1 0; have r1 := rl_env hq.2; clear hq; first | (go_simp; done) | (go_simp; with_reducible rfl)
          simp only [Act.put, List.setIfInBounds_toArray, List.set_cons_zero, List.set_cons_succ]
          refine wpAnyH_take (i := 7) (oi := ⟨some 48, _, _, _, _, _⟩) (v := ?_) rfl (by kernel_rfl) (by kernel_rfl) (by kernel_rfl) (fun _ _ _ h => h) (Or.inl ⟨by kernel_rfl, ?_⟩) hH ?_
          rotate_left 1
          · intro wq hq; have r0 : wq.cell? ⟨q, 0, none⟩ = some (.pointer (some ⟨p, 0, none⟩)) := blk_cell hq.1 0; have r1 := rl_env hq.2; clear hq; first | (go_simp; done) | (go_simp; with_reducible rfl)
          simp only [Act.put, List.setIfInBounds_toArray, List.set_cons_zero, List.set_cons_succ]
          refine wpAnyH_ready (rs := [8]) (by kernel_rfl) (by simp) (AllReadyH.cons (o := ⟨some 49, _, _, _, _, _⟩) rfl (fun K hK => ?_) AllReadyH.nil)
          go_simp
          refine ((HK3.out.on (Below.refl _ _).drew).step HE.out).mono ?_
          rintro e w5 ⟨F, S2, hF, rfl, hf, hk5, hS2, ht5⟩
          have HK5 : Hid (Keep W w5 N q mq p b S2 (runN N evs s0 (k + 1)).1 (runN N evs s0 (k + 1)).2) := by subst hF; exact hk5
          clear hf hk5 hS2 ht5 hF
          go_wp2_with fail
          refine hK.out _ _ ⟨HK5.out.pair, HRNG.out _ HK5.out.below⟩ (fun hH => ?_)
          clear hK K
          try simp only [Act.put, List.setIfInBounds_toArray, List.set_cons_zero, List.set_cons_succ]
          refine wpAnyH_done (by kernel_rfl) ?_ _
          clear hH
          go_wp2_with fail
          have e1 : wrap64 ((k : Int) + 1) = (k : Int) + 1 := by have := HKK.out; unfold wrap64; omega
          rw [e1]
          exact ⟨⟨k + 1, S2, by omega, by omega, by rw [Int.natCast_succ], HK5.out⟩, by have := HKK.out; simp [intOf]; omega⟩
        · obtain rfl : k = kk := by omega
          go_wp2_with fail
          go_meet
          exact ⟨k, S1, hk1, by omega, .inr rfl, HK3.out⟩
      · obtain rfl : k = em := by omega
        go_wp2_with fail
        go_meet
        exact ⟨k, S1, by omega, hk2, .inl rfl, HK3.out⟩
  case rest =>
  obtain ⟨k1, S1, hk1, hk2, hk3, hkeep⟩ := hcut
  generalize wc = w3 at *
  have HK4 := Lib.hid hkeep
  have HK1 := Lib.hid (And.intro hk1 (And.intro hk2 hk3))
  clear hkeep hk1 hk2 hk3 HK2
  have c0 : w3.cell? ⟨q, 0, none⟩ = some (.pointer (some ⟨p, 0, none⟩)) := blk_cell HK4.out.pair 0
  go_wp2_with fail
  refine (isa_fork HK4.out.mac).mono ?_
  rintro e w4 ⟨p2, b2, S2, rfl, hmac, hu, hb⟩
  have HT := Lib.hid (Tw.of HK4.out hmac hu hb)
  clear hmac hu hb HK4 c0
  obtain ⟨s1, hs1⟩ : ∃ s1 : List Int × (Nat → Nat), s1 = runN N evs s0 k1 := ⟨_, rfl⟩
  rw [← hs1] at HT
  clear hs1
  have c1 : w4.cell? ⟨q, 0, none⟩ = some (.pointer (some ⟨p, 0, none⟩)) := blk_cell HT.out.pair 0
  go_wp2_with fail
  refine (mach_hart HT.out.one.mach).mono ?_
  rintro e w5 ⟨rfl, hb⟩
  have HT5 := Lib.hid (HT.out.on hb)
  clear hb HT c1
  rw [show (cksV hartC s1.1).toArray = hartA s1.1 from rfl]
  go_upto_block 2 with fail
  have HT6 : Hid (Tw W (w5.alloc (.cells (hartA s1.1) 43)) N q mq p b S1 s1 p2 b2 S2 s1) := HT5.out.on ((Below.refl _ _).alloc (Nat.le_refl _) _)
  have HTL : Hid (Tld W (w5.alloc (.cells (hartA s1.1) 43)) w5.heap.size s1.1 q p b S1 p2 b2 S2 (.slice none 0 0) 0 (fun i => stpR N (evs (kk + i)) (runN N (fun i => evs (kk + i)) s1 i))) :=
    ⟨World.ownsRow_nil _ _ _ _, (fun g hg => nomatch hg), blk_alloc _ _, ⟨fun h => by have := HT5.out.one.lt _ h; omega, fun h => by have := HT5.out.two.lt _ h; omega, fun h => by have := blk_lt HT5.out.pair; omega⟩, HT5.out.below.size⟩
  clear HT5
  generalize w5.alloc (.cells (hartA s1.1) 43) = w6 at *
  obtain ⟨gh, hgh⟩ : ∃ g, g = w5.heap.size := ⟨_, rfl⟩
  rw [← hgh] at HTL ⊢
  clear hgh
  generalize hevs2 : (fun i => evs (kk + i)) = evs2 at *
  have HE2 : Hid (∀ i, evs2 i = evs (kk + i)) := fun i => by rw [← hevs2]
  generalize hR : (fun i => stpR N (evs (kk + i)) (runN N evs2 s1 i)) = R at *
  have HR : Hid (∀ i, R i = stpR N (evs2 i) (runN N evs2 s1 i)) := fun i => by rw [← hR, HE2.out]
  clear hevs2 hR
  go_cut [14, 15] (fun s14 s15 wx => ∃ (j : Nat) (S3 : Nat → Prop), j ≤ 60 ∧ (j = 0 ∨ (kk : Int) + j ≤ em) ∧ Tw W wx N q mq p b S1 s1 p2 b2 S3 (runN N evs2 s1 j) ∧ Tld W wx gh s1.1 q p b S1 p2 b2 S3 s14 j R)
  case first =>
    go_wp2_with fail
    go_loopw [14, 15] (fun v i wr => ∃ (j t : Nat) (S3 : Nat → Prop), j ≤ 60 ∧ (j = 0 ∨ (kk : Int) + j ≤ em) ∧ t = kk + j ∧ i = .int .i64 t ∧ Tw W wr N q mq p b S1 s1 p2 b2 S3 (runN N evs2 s1 j) ∧ Tld W wr gh s1.1 q p b S1 p2 b2 S3 v j R) (fun _ i _ => 200 - (intOf i).toNat)
    case atStart => exact ⟨0, kk, S2, by omega, .inl rfl, rfl, rfl, HT6.out, HTL.out⟩
    case round =>
      obtain ⟨j, t, S3, hj, hje, ht, rfl, hT, hL⟩ := hrel
      have HT7 := Lib.hid hT
      have HL7 := Lib.hid hL
      have HJ := Lib.hid (And.intro hj (And.intro hje ht))
      clear hT hL HT6 HTL hj hje ht
      by_cases hlt : (t : Int) < em
      · by_cases hlt2 : (t : Int) < (kk : Int) + 60
        · obtain ⟨he, eb, eo, rfl, heb, her⟩ := HEV.out t (by omega)
          have hes : evs t = evs2 j := by rw [HE2.out, HJ.out.2.2]
          rw [hes] at he her
          clear hes
          have HE := Lib.hid he
          have r1 := rl_env (rangeAt_below her heb HT7.out.below)
          clear he heb her
          have hw : wrap64 ((kk : Int) + 60) = (kk : Int) + 60 := by have := HKK.out; unfold wrap64; omega
          go_wp2_with fail
          refine (HT7.out.stepB HE.out).mono ?_
          rintro e w7 ⟨S4, rfl, hT', hS4, htu, hin⟩
          have HT8 : Hid (Tw W w7 N q mq p b S1 s1 p2 b2 S4 (runN N evs2 s1 (j + 1))) := hT'
          have HL8 := Lib.hid (HL7.out.turnB htu hS4)
          rw [← HR.out j]
          clear hT' hS4 htu hin HT7 HL7 r1
          obtain ⟨RA, hRA⟩ : ∃ RA, RA = recA (R j) := ⟨_, rfl⟩
          rw [← hRA]
          have HRA := Lib.hid hRA
          have hRs : RA.size = 12 := by rw [hRA]; exact recA_size _
          clear hRA
          go_wp2_with (at_builtin; go_must (rw [fold_rec hRs]); go_must (refine wpList_app_rec rfl (.tmp 75) (.tmp 82) rfl HRA.out rfl HL8.out.told rfl HT8.out.below.size (by have := HJ.out.1; omega) ?_); intro v' w8 hv1 hv2 hv3)
          have e1 : wrap64 ((t : Int) + 1) = ((t + 1 : Nat) : Int) := by have := HKK.out; unfold wrap64; omega
          rw [e1]
          obtain ⟨hT9, hL9⟩ := HL8.out.app HT8.out hv1 hv2 hv3
          obtain ⟨j1, j2, j3⟩ := HJ.out
          exact ⟨⟨j + 1, t + 1, S4, by omega, .inr (by omega), by omega, rfl, hT9, hL9⟩, by have := HKK.out; simp [intOf]; omega⟩
        · have hw : wrap64 ((kk : Int) + 60) = (kk : Int) + 60 := by have := HKK.out; unfold wrap64; omega
          go_wp2_with fail
          go_meet
          exact ⟨j, S3, HJ.out.1, HJ.out.2.1, HT7.out, HL7.out⟩
      · go_wp2_with fail
        go_meet
        exact ⟨j, S3, HJ.out.1, HJ.out.2.1, HT7.out, HL7.out⟩
  case rest =>
  obtain ⟨j, S3, hj, hje, hT, hL⟩ := hcut
  generalize wc = w9 at *
  obtain ⟨va, vcap, rfl⟩ : ∃ va vcap, u14 = .slice va j vcap := by
    rcases hL.told.2 with ⟨rfl, rfl⟩ | ⟨g, cap, cur, rfl, _⟩
    · exact ⟨none, 0, rfl⟩
    · exact ⟨_, cap, rfl⟩
  have HT9 := Lib.hid hT
  have HL9 := Lib.hid hL
  have HJ := Lib.hid (And.intro hj hje)
  clear hT hL HT6 HTL hj hje
  have HEQ := Lib.hid (fun w => run_eqHart HT9.out.one.hart w)
  go_wp2_with fail
  refine wp_region_held_drew (S := fun wq => wq.heap[q]? = some (.cells #[.pointer (some ⟨p, 0, none⟩), .pointer (some ⟨mq, 0, none⟩)] 34 (0, 0)) ∧ wq.heap[gh]? = some (.cells (hartA s1.1) 43 (0, 0))) (by kernel_rfl) ⟨HT9.out.pair, HL9.out.bef⟩ (fun hH => ?_)
  refine wpAnyH_take (i := 0) (oi := ⟨some 84, _, _, _, _, _⟩) (v := ?_) rfl (by kernel_rfl) (by kernel_rfl) (by kernel_rfl) (fun _ _ _ h => h) (Or.inl ⟨by kernel_rfl, ?_⟩) hH ?_
  rotate_left 1
  · intro wq hq; have r0 : wq.cell? ⟨q, 0, none⟩ = some (.pointer (some ⟨p, 0, none⟩)) := blk_cell hq.1 0; have q1 : rowIs wq gh 66 = true := (by have := rowIs_of hq.2; rwa [hartA_size] at this); have q2 : rowOf wq gh = hartA s1.1 := rowOf_of hq.2; have re := HEQ.out wq; clear hq; first | (go_simp; done) | (go_simp; with_reducible rfl)
  simp only [Act.put, List.setIfInBounds_toArray, List.set_cons_zero, List.set_cons_succ]
  refine wpAnyH_take (i := 1) (oi := ⟨some 85, _, _, _, _, _⟩) (v := ?_) rfl (by kernel_rfl) (by kernel_rfl) (by kernel_rfl) (fun _ _ _ h => h) (Or.inl ⟨by kernel_rfl, ?_⟩) hH ?_
  rotate_left 1
  · intro wq hq; have r0 : wq.cell? ⟨q, 0, none⟩ = some (.pointer (some ⟨p, 0, none⟩)) := blk_cell hq.1 0; have q1 : rowIs wq gh 66 = true := (by have := rowIs_of hq.2; rwa [hartA_size] at this); have q2 : rowOf wq gh = hartA s1.1 := rowOf_of hq.2; have re := HEQ.out wq; clear hq; first | (go_simp; done) | (go_simp; with_reducible rfl)
  simp only [Act.put, List.setIfInBounds_toArray, List.set_cons_zero, List.set_cons_succ]
  refine wpAnyH_take (i := 2) (oi := ⟨some 86, _, _, _, _, _⟩) (v := ?_) rfl (by kernel_rfl) (by kernel_rfl) (by kernel_rfl) (fun _ _ _ h => h) (Or.inl ⟨by kernel_rfl, ?_⟩) hH ?_
  rotate_left 1
  · intro wq hq; have r0 : wq.cell? ⟨q, 0, none⟩ = some (.pointer (some ⟨p, 0, none⟩)) := blk_cell hq.1 0; have q1 : rowIs wq gh 66 = true := (by have := rowIs_of hq.2; rwa [hartA_size] at this); have q2 : rowOf wq gh = hartA s1.1 := rowOf_of hq.2; have re := HEQ.out wq; clear hq; first | (go_simp; done) | (go_simp; with_reducible rfl)
  simp only [Act.put, List.setIfInBounds_toArray, List.set_cons_zero, List.set_cons_succ]
  refine wpAnyH_take (i := 3) (oi := ⟨some 87, _, _, _, _, _⟩) (v := ?_) rfl (by kernel_rfl) (by kernel_rfl) (by kernel_rfl) (fun _ _ _ h => h) (Or.inl ⟨by kernel_rfl, ?_⟩) hH ?_
  rotate_left 1
  · intro wq hq; have r0 : wq.cell? ⟨q, 0, none⟩ = some (.pointer (some ⟨p, 0, none⟩)) := blk_cell hq.1 0; have q1 : rowIs wq gh 66 = true := (by have := rowIs_of hq.2; rwa [hartA_size] at this); have q2 : rowOf wq gh = hartA s1.1 := rowOf_of hq.2; have re := HEQ.out wq; clear hq; first | (go_simp; done) | (go_simp; with_reducible rfl)
  simp only [Act.put, List.setIfInBounds_toArray, List.set_cons_zero, List.set_cons_succ]
  refine wpAnyH_take (i := 5) (oi := ⟨some 89, _, _, _, _, _⟩) (v := ?_) rfl (by kernel_rfl) (by kernel_rfl) (by kernel_rfl) (fun _ _ _ h => h) (Or.inl ⟨by kernel_rfl, ?_⟩) hH ?_
  rotate_left 1
  · intro wq hq; have r0 : wq.cell? ⟨q, 0, none⟩ = some (.pointer (some ⟨p, 0, none⟩)) := blk_cell hq.1 0; have q1 : rowIs wq gh 66 = true := (by have := rowIs_of hq.2; rwa [hartA_size] at this); have q2 : rowOf wq gh = hartA s1.1 := rowOf_of hq.2; have re := HEQ.out wq; clear hq; first | (go_simp; done) | (go_simp; with_reducible rfl)
  simp only [Act.put, List.setIfInBounds_toArray, List.set_cons_zero, List.set_cons_succ]
  refine wpAnyH_ready (rs := [4]) (by kernel_rfl) (by simp) (AllReadyH.cons (o := ⟨some 88, _, _, _, _, _⟩) rfl (fun K hK => ?_) AllReadyH.nil)
  go_simp
  refine (mach_hart (HT9.out.on (Below.refl _ _).drew).one.mach).mono ?_
  rintro e w10 ⟨rfl, hb⟩
  have HT10 := Lib.hid ((HT9.out.on (Below.refl _ _).drew).on hb)
  have HL10 := Lib.hid ((HL9.out.on (Below.refl _ _).drew).on hb)
  clear hb HT9 HL9
  rw [show (cksV hartC s1.1).toArray = hartA s1.1 from rfl]
  go_wp2_with fail
  refine hK.out _ _ ⟨HT10.out.pair, HL10.out.bef⟩ (fun hH => ?_)
  clear hK K
  try simp only [Act.put, List.setIfInBounds_toArray, List.set_cons_zero, List.set_cons_succ]
  refine wpAnyH_take (i := 6) (oi := ⟨some 90, _, _, _, _, _⟩) (v := ?_) rfl (by kernel_rfl) (by kernel_rfl) (by kernel_rfl) (fun _ _ _ h => h) (Or.inl ⟨by kernel_rfl, ?_⟩) hH ?_
  rotate_left 1
  · intro wq hq; have r0 : wq.cell? ⟨q, 0, none⟩ = some (.pointer (some ⟨p, 0, none⟩)) := blk_cell hq.1 0; have q1 : rowIs wq gh 66 = true := (by have := rowIs_of hq.2; rwa [hartA_size] at this); have q2 : rowOf wq gh = hartA s1.1 := rowOf_of hq.2; have re := HEQ.out wq; clear hq; first | (go_simp; done) | (go_simp; with_reducible rfl)
  simp only [Act.put, List.setIfInBounds_toArray, List.set_cons_zero, List.set_cons_succ]
  refine wpAnyH_done (by kernel_rfl) ?_ _
  clear hH
  clear HEQ
  go_wp2_with fail
  go_loopw [16] (fun i wr => ∃ (k : Nat) (S5 : Nat → Prop), k ≤ j ∧ i = .int .i64 k ∧ Tw W wr N q mq p b S5 (runN N evs2 s1 k) p2 b2 S3 (runN N evs2 s1 j) ∧ Tld W wr gh s1.1 q p b S5 p2 b2 S3 (.slice va j vcap) j R) (fun i _ => 200 - (intOf i).toNat)
  case atStart => exact ⟨0, S1, by omega, rfl, HT10.out, HL10.out⟩
  case round =>
    obtain ⟨k, S5, hk, rfl, hT, hL⟩ := hrel
    have HT11 := Lib.hid hT
    have HL11 := Lib.hid hL
    clear hT hL HT10 HL10
    by_cases hlt : (k : Int) < j
    · obtain ⟨g, cap, hv, hvo, hrg⟩ := HL11.out.told.range (show k < j by omega)
      cases hv
      obtain ⟨he, eb, eo, rfl, heb, her⟩ := HEV.out (kk + k) (by have := HJ.out.2; omega)
      rw [← HE2.out k] at he her
      obtain ⟨t, ht⟩ : ∃ t, t = kk + k := ⟨_, rfl⟩
      rw [← ht] at her
      have HKJ : Hid (k < j) := (show k < j by omega)
      have hte : (t : Int) < em := by have := HJ.out.2; omega
      have HTT : Hid (t = kk + k) := ht
      have HE := Lib.hid he
      have HRNG : Hid (∀ wq, Below W.heap.size W wq → wq.rangeAt eb (eo + t * 10) (cksV envC (evs2 k))) := fun wq hb => rangeAt_below her heb hb
      have HRT : Hid (∀ w' : World, w'.heap[g]? = wr.heap[g]? → w'.rangeAt g (k * 12) (cksV recC (R k))) := hrg
      have HWK : Hid (IntKind.i64.wrap ((kk : Int) + (k : Int)) = (t : Int)) := by have := HKK.out; have := HJ.out.1; show IntKind.i64.wrap _ = _; rw [IntKind.wrap_i64]; omega
      clear ht he heb her hrg
      go_wp2_with fail
      refine wp_region_held_drew (S := fun wq => wq.heap[q]? = some (.cells #[.pointer (some ⟨p, 0, none⟩), .pointer (some ⟨mq, 0, none⟩)] 34 (0, 0)) ∧ wq.rangeAt eb (eo + t * 10) (cksV envC (evs2 k)) ∧ wq.rangeAt g (k * 12) (cksV recC (R k))) (by kernel_rfl) ⟨HT11.out.pair, HRNG.out _ HT11.out.below.drew, HRT.out _ rfl⟩ (fun hH => ?_)
      refine wpAnyH_take (i := 0) (oi := ⟨some 97, _, _, _, _, _⟩) (v := ?_) rfl (by kernel_rfl) (by kernel_rfl) (by kernel_rfl) (fun _ _ _ h => h) (Or.inl ⟨by kernel_rfl, ?_⟩) hH ?_
      rotate_left 1
      · intro wq hq; have r0 : wq.cell? ⟨q, 0, none⟩ = some (.pointer (some ⟨p, 0, none⟩)) := blk_cell hq.1 0; have r1 := rl_env hq.2.1; have r2 := rl_recM hq.2.2; (try have re := HEQ2.out wq); clear hq; first | (go_simp; done) | (go_simp; with_reducible rfl)
      simp only [Act.put, List.setIfInBounds_toArray, List.set_cons_zero, List.set_cons_succ]
      refine wpAnyH_take (i := 1) (oi := ⟨some 98, _, _, _, _, _⟩) (v := ?_) rfl (by kernel_rfl) (by kernel_rfl) (by kernel_rfl) (fun _ _ _ h => h) (Or.inl ⟨by kernel_rfl, ?_⟩) hH ?_
      rotate_left 1
      · intro wq hq; have r0 : wq.cell? ⟨q, 0, none⟩ = some (.pointer (some ⟨p, 0, none⟩)) := blk_cell hq.1 0; have r1 := rl_env hq.2.1; have r2 := rl_recM hq.2.2; (try have re := HEQ2.out wq); clear hq; first | (go_simp; done) | (go_simp; with_reducible rfl)
      simp only [Act.put, List.setIfInBounds_toArray, List.set_cons_zero, List.set_cons_succ]
      refine wpAnyH_take (i := 2) (oi := ⟨some 99, _, _, _, _, _⟩) (v := ?_) rfl (by kernel_rfl) (by kernel_rfl) (by kernel_rfl) (fun _ _ _ h => h) (Or.inl ⟨by kernel_rfl, ?_⟩) hH ?_
      rotate_left 1
      · intro wq hq; have r0 : wq.cell? ⟨q, 0, none⟩ = some (.pointer (some ⟨p, 0, none⟩)) := blk_cell hq.1 0; have r1 := rl_env hq.2.1; have r2 := rl_recM hq.2.2; (try have re := HEQ2.out wq); clear hq; first | (go_simp; done) | (go_simp; with_reducible rfl)
      simp only [Act.put, List.setIfInBounds_toArray, List.set_cons_zero, List.set_cons_succ]
      refine wpAnyH_take (i := 3) (oi := ⟨some 100, _, _, _, _, _⟩) (v := ?_) rfl (by kernel_rfl) (by kernel_rfl) (by kernel_rfl) (fun _ _ _ h => h) (Or.inl ⟨by kernel_rfl, ?_⟩) hH ?_
      rotate_left 1
      · intro wq hq; have r0 : wq.cell? ⟨q, 0, none⟩ = some (.pointer (some ⟨p, 0, none⟩)) := blk_cell hq.1 0; have r1 := rl_env hq.2.1; have r2 := rl_recM hq.2.2; (try have re := HEQ2.out wq); clear hq; first | (go_simp; done) | (go_simp; with_reducible rfl)
      simp only [Act.put, List.setIfInBounds_toArray, List.set_cons_zero, List.set_cons_succ]
      refine wpAnyH_take (i := 4) (oi := ⟨some 101, _, _, _, _, _⟩) (v := ?_) rfl (by kernel_rfl) (by kernel_rfl) (by kernel_rfl) (fun _ _ _ h => h) (Or.inl ⟨by kernel_rfl, ?_⟩) hH ?_
      rotate_left 1
      · intro wq hq; have r0 : wq.cell? ⟨q, 0, none⟩ = some (.pointer (some ⟨p, 0, none⟩)) := blk_cell hq.1 0; have r1 := rl_env hq.2.1; have r2 := rl_recM hq.2.2; (try have re := HEQ2.out wq); clear hq; first | (go_simp; done) | (go_simp; with_reducible rfl)
      simp only [Act.put, List.setIfInBounds_toArray, List.set_cons_zero, List.set_cons_succ]
      refine wpAnyH_take (i := 5) (oi := ⟨some 102, _, _, _, _, _⟩) (v := ?_) rfl (by kernel_rfl) (by kernel_rfl) (by kernel_rfl) (fun _ _ _ h => h) (Or.inl ⟨by kernel_rfl, ?_⟩) hH ?_
      rotate_left 1
      · intro wq hq; have r0 : wq.cell? ⟨q, 0, none⟩ = some (.pointer (some ⟨p, 0, none⟩)) := blk_cell hq.1 0; have r1 := rl_env hq.2.1; have r2 := rl_recM hq.2.2; (try have re := HEQ2.out wq); clear hq; first | (go_simp; done) | (go_simp; with_reducible rfl)
      simp only [Act.put, List.setIfInBounds_toArray, List.set_cons_zero, List.set_cons_succ]
      refine wpAnyH_take (i := 6) (oi := ⟨some 103, _, _, _, _, _⟩) (v := ?_) rfl (by kernel_rfl) (by kernel_rfl) (by kernel_rfl) (fun _ _ _ h => h) (Or.inl ⟨by kernel_rfl, ?_⟩) hH ?_
      rotate_left 1
      · intro wq hq; have r0 : wq.cell? ⟨q, 0, none⟩ = some (.pointer (some ⟨p, 0, none⟩)) := blk_cell hq.1 0; have r1 := rl_env hq.2.1; have r2 := rl_recM hq.2.2; (try have re := HEQ2.out wq); clear hq; first | (go_simp; done) | (go_simp; with_reducible rfl)
      simp only [Act.put, List.setIfInBounds_toArray, List.set_cons_zero, List.set_cons_succ]
      refine wpAnyH_take (i := 7) (oi := ⟨some 104, _, _, _, _, _⟩) (v := ?_) rfl (by kernel_rfl) (by kernel_rfl) (by kernel_rfl) (fun _ _ _ h => h) (Or.inl ⟨by kernel_rfl, ?_⟩) hH ?_
      rotate_left 1
      · intro wq hq; have hwk := HWK.out; have r0 : wq.cell? ⟨q, 0, none⟩ = some (.pointer (some ⟨p, 0, none⟩)) := blk_cell hq.1 0; have r1 := rl_env hq.2.1; have r2 := rl_recM hq.2.2; (try have re := HEQ2.out wq); clear hq; first | (go_simp; done) | (go_simp; with_reducible rfl)
      simp only [Act.put, List.setIfInBounds_toArray, List.set_cons_zero, List.set_cons_succ]
      refine wpAnyH_take (i := 8) (oi := ⟨some 105, _, _, _, _, _⟩) (v := ?_) rfl (by kernel_rfl) (by kernel_rfl) (by kernel_rfl) (fun _ _ _ h => h) (Or.inl ⟨by kernel_rfl, ?_⟩) hH ?_
      rotate_left 1
      · intro wq hq; have r0 : wq.cell? ⟨q, 0, none⟩ = some (.pointer (some ⟨p, 0, none⟩)) := blk_cell hq.1 0; have r1 := rl_env hq.2.1; have r2 := rl_recM hq.2.2; (try have re := HEQ2.out wq); clear hq; first | (go_simp; done) | (go_simp; with_reducible rfl)
      simp only [Act.put, List.setIfInBounds_toArray, List.set_cons_zero, List.set_cons_succ]
      refine wpAnyH_take (i := 9) (oi := ⟨some 106, _, _, _, _, _⟩) (v := ?_) rfl (by kernel_rfl) (by kernel_rfl) (by kernel_rfl) (fun _ _ _ h => h) (Or.inl ⟨by kernel_rfl, ?_⟩) hH ?_
      rotate_left 1
      · intro wq hq; have r0 : wq.cell? ⟨q, 0, none⟩ = some (.pointer (some ⟨p, 0, none⟩)) := blk_cell hq.1 0; have r1 := rl_env hq.2.1; have r2 := rl_recM hq.2.2; (try have re := HEQ2.out wq); clear hq; first | (go_simp; done) | (go_simp; with_reducible rfl)
      simp only [Act.put, List.setIfInBounds_toArray, List.set_cons_zero, List.set_cons_succ]
      refine wpAnyH_take (i := 11) (oi := ⟨some 108, _, _, _, _, _⟩) (v := ?_) rfl (by kernel_rfl) (by kernel_rfl) (by kernel_rfl) (fun _ _ _ h => h) (Or.inl ⟨by kernel_rfl, ?_⟩) hH ?_
      rotate_left 1
      · intro wq hq; have r0 : wq.cell? ⟨q, 0, none⟩ = some (.pointer (some ⟨p, 0, none⟩)) := blk_cell hq.1 0; have r1 := rl_env hq.2.1; have r2 := rl_recM hq.2.2; (try have re := HEQ2.out wq); clear hq; first | (go_simp; done) | (go_simp; with_reducible rfl)
      simp only [Act.put, List.setIfInBounds_toArray, List.set_cons_zero, List.set_cons_succ]
      refine wpAnyH_take (i := 12) (oi := ⟨some 109, _, _, _, _, _⟩) (v := ?_) rfl (by kernel_rfl) (by kernel_rfl) (by kernel_rfl) (fun _ _ _ h => h) (Or.inl ⟨by kernel_rfl, ?_⟩) hH ?_
      rotate_left 1
      · intro wq hq; have r0 : wq.cell? ⟨q, 0, none⟩ = some (.pointer (some ⟨p, 0, none⟩)) := blk_cell hq.1 0; have r1 := rl_env hq.2.1; have r2 := rl_recM hq.2.2; (try have re := HEQ2.out wq); clear hq; first | (go_simp; done) | (go_simp; with_reducible rfl)
      simp only [Act.put, List.setIfInBounds_toArray, List.set_cons_zero, List.set_cons_succ]
      refine wpAnyH_take (i := 13) (oi := ⟨some 110, _, _, _, _, _⟩) (v := ?_) rfl (by kernel_rfl) (by kernel_rfl) (by kernel_rfl) (fun _ _ _ h => h) (Or.inl ⟨by kernel_rfl, ?_⟩) hH ?_
      rotate_left 1
      · intro wq hq; have r0 : wq.cell? ⟨q, 0, none⟩ = some (.pointer (some ⟨p, 0, none⟩)) := blk_cell hq.1 0; have r1 := rl_env hq.2.1; have r2 := rl_recM hq.2.2; (try have re := HEQ2.out wq); clear hq; first | (go_simp; done) | (go_simp; with_reducible rfl)
      simp only [Act.put, List.setIfInBounds_toArray, List.set_cons_zero, List.set_cons_succ]
      refine wpAnyH_take (i := 14) (oi := ⟨some 111, _, _, _, _, _⟩) (v := ?_) rfl (by kernel_rfl) (by kernel_rfl) (by kernel_rfl) (fun _ _ _ h => h) (Or.inl ⟨by kernel_rfl, ?_⟩) hH ?_
      rotate_left 1
      · intro wq hq; have r0 : wq.cell? ⟨q, 0, none⟩ = some (.pointer (some ⟨p, 0, none⟩)) := blk_cell hq.1 0; have r1 := rl_env hq.2.1; have r2 := rl_recM hq.2.2; (try have re := HEQ2.out wq); clear hq; first | (go_simp; done) | (go_simp; with_reducible rfl)
      simp only [Act.put, List.setIfInBounds_toArray, List.set_cons_zero, List.set_cons_succ]
      refine wpAnyH_ready (rs := [10]) (by kernel_rfl) (by simp) (AllReadyH.cons (o := ⟨some 107, _, _, _, _, _⟩) rfl (fun K hK => ?_) AllReadyH.nil)
      go_simp
      refine ((HT11.out.on (Below.refl _ _).drew).stepA HE.out).mono ?_
      rintro e w12 ⟨S6, rfl, hT', hS6, htu, hin⟩
      have HT12 : Hid (Tw W w12 N q mq p b S6 (runN N evs2 s1 (k + 1)) p2 b2 S3 (runN N evs2 s1 j)) := hT'
      have HL12 := Lib.hid ((HL11.out.on (Below.refl _ _).drew).turnA htu hS6)
      rw [← HR.out k] at hin ⊢
      have HEQ2 := Lib.hid (fun w => run_eqRec hin w)
      have HRT2 : Hid (w12.rangeAt g (k * 12) (cksV recC (R k))) := by
        obtain ⟨g', cap', e1, _, h3⟩ := HL12.out.told.range (show k < j from HKJ.out)
        cases e1
        exact h3 w12 rfl
      clear hT' hS6 htu hin HT11 HL11 HRT
      go_wp2_with fail
      refine hK.out _ _ ⟨HT12.out.pair, HRNG.out _ HT12.out.below, HRT2.out⟩ (fun hH => ?_)
      clear hK K
      try simp only [Act.put, List.setIfInBounds_toArray, List.set_cons_zero, List.set_cons_succ]
      refine wpAnyH_take (i := 15) (oi := ⟨some 112, _, _, _, _, _⟩) (v := ?_) rfl (by kernel_rfl) (by kernel_rfl) (by kernel_rfl) (fun _ _ _ h => h) (Or.inl ⟨by kernel_rfl, ?_⟩) hH ?_
      rotate_left 1
      · intro wq hq; have r0 : wq.cell? ⟨q, 0, none⟩ = some (.pointer (some ⟨p, 0, none⟩)) := blk_cell hq.1 0; have r1 := rl_env hq.2.1; have r2 := rl_recM hq.2.2; (try have re := HEQ2.out wq); clear hq; first | (go_simp; done) | (go_simp; with_reducible rfl)
      simp only [Act.put, List.setIfInBounds_toArray, List.set_cons_zero, List.set_cons_succ]
      refine wpAnyH_done (by kernel_rfl) ?_ _
      clear hH
      clear HEQ2 HRT2 HWK
      go_wp2_with fail
      have e1 : wrap64 ((k : Int) + 1) = ((k + 1 : Nat) : Int) := by have := HJ.out.1; unfold wrap64; omega
      rw [e1]
      exact ⟨⟨k + 1, S6, by omega, rfl, HT12.out, HL12.out⟩, by have := HJ.out.1; simp [intOf]; omega⟩
    · obtain rfl : k = j := by omega
      have c0 : wr.cell? ⟨q, 0, none⟩ = some (.pointer (some ⟨p, 0, none⟩)) := blk_cell HT11.out.pair 0
      have HEQ3 := Lib.hid (fun w => run_eqHart HT11.out.one.hart w)
      go_wp2_with fail
      refine (mach_hart HT11.out.one.mach).mono ?_
      rintro e w13 ⟨rfl, hb⟩
      have HT13 := Lib.hid (HT11.out.on hb)
      clear hb HT11 HL11 c0
      go_wp2_with fail
      refine (mach_hart HT13.out.two.mach).mono ?_
      rintro e w14 ⟨rfl, hb⟩
      have HT14 := Lib.hid (HT13.out.on hb)
      clear hb HT13
      have c1 : w14.cell? ⟨q, 0, none⟩ = some (.pointer (some ⟨p, 0, none⟩)) := blk_cell HT14.out.pair 0
      have re := HEQ3.out w14
      rw [show (cksV hartC (runN N evs2 s1 k).1).toArray = hartA (runN N evs2 s1 k).1 from rfl]
      go_wp2_with fail
      refine (isa_ram HT14.out.one.mach HT14.out.one.ram).mono ?_
      rintro e w15 ⟨rb, S7, rfl, hr1, hS1, hb⟩
      have HT15 := Lib.hid (HT14.out.on hb)
      have HR1 := Lib.hid hr1
      clear hb HT14 c1 re hS1 hr1
      go_wp2_with fail
      refine (isa_ram HT15.out.two.mach HT15.out.two.ram).mono ?_
      rintro e w16 ⟨rb2, S8, rfl, hr2, hS2, hb⟩
      have HR1' := Lib.hid (HR1.out.below hb)
      have HR2 := Lib.hid hr2
      have HB := Lib.hid (HT15.out.on hb).below
      clear hb hr2 hS2 HR1 HT15
      go_wp2_with fail
      refine (ram_same_at HR1'.out HR2.out).mono ?_
      rintro e w17 ⟨rfl, hb⟩
      have HB2 := Lib.hid (HB.out.trans (hb.mono HB.out.size))
      clear hb
      go_wp2_with fail
      exact bodyPost_ret (v := .bool true) (by kernel_rfl) rfl ⟨rfl, HB2.out⟩
end Go.Proofs.YtkogjjeoihnjpaaGreat
end
