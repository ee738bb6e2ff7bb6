/- Contracts of Ram.Fork: a copy of every page. No condition. -/
import Derived.Test.YtebdbbpefmgooaaRam6
import Derived.Test.YtebdbbpefmgooaaRules
import Derived.Deep.MidRow
import Derived.StillTailTactics
import Derived.BigRegion
import Derived.Deep.RegionWith
import Derived.Deep.RegionHeld3
import Derived.Deep.QuietTactic
import Derived.BigQuiet
import Derived.Deep.LoopGhost
import Derived.Deep.DeepCutAuto
import Derived.Deep.DeepFit
import Derived.Deep.DeepMust
import Derived.Handy
set_option linter.unusedVariables false
set_option linter.unusedSimpArgs false
namespace Go.Proofs.Ytebdbbpefmgooaa
open Go.RowKit
set_option maxRecDepth 100000
/-! ### a page is loaded and stored in one step -/
theorem page_one (f : Nat → Nat) : (pageArr f).all (·.oneCell') = true := by
  rw [Array.all_eq_true]
  intro i hi
  have h := pageArr_get f i (by rw [pageArr_size] at hi; exact hi)
  rw [Array.getElem?_eq_getElem hi] at h
  rw [Option.some.inj h]
  rfl
theorem ld_page (x : Value) : Instr.loadAt 122 x = loadS 122 x := rfl
theorem st_page (x v : Value) : Instr.storeAt 122 x v = storeS 122 x v := rfl
theorem rl_page (w : World) (g : Nat) (h : rowIs w g 4096 = true) : (loadS 122 (.pointer (some ⟨g, 0, none⟩))).run Try.prog w = .ok (.agg (rowOf w g)) w :=
  run_loadS Try.prog 122 _ 4096 Try.underlying122 rfl (by kernel_rfl) w g h
theorem rs_page (w : World) (g : Nat) (C : Array Value) (h : rowIs w g 4096 = true) (hC : stOk 4096 C = true) : (storeS 122 (.pointer (some ⟨g, 0, none⟩)) (.agg C)).run Try.prog w = .ok () (w.setRow g C) :=
  run_storeS' Try.prog 122 4096 (by kernel_rfl) w g C h hC
theorem page_ok (f : Nat → Nat) : stOk 4096 (pageArr f) = true := by
  show ((pageArr f).size == 4096 && (pageArr f).all (·.oneCell')) = true
  rw [page_one f, Bool.and_true, beq_iff_eq]
  exact pageArr_size f
theorem page_row {w : World} {g : Nat} {f : Nat → Nat} {T : TypeId} (h : w.heap[g]? = some (.cells (pageArr f) T (0, 0))) : rowIs w g 4096 = true ∧ rowOf w g = pageArr f := ⟨by have := rowIs_of h; rw [pageArr_size] at this; exact this, rowOf_of h⟩
/-- a page put in whole -/
theorem put_page {w w1 : World} {b m n : Nat} {pg : Nat → Option Nat} {ct : Nat → Nat} (h : RamIs w b m n pg ct) {k : Nat} (hp : pg k = none) (hk : k < 256) {f : Nat → Nat} (hf : ∀ j, f j < 256) {D : DataW Unit} (hm : PgMap w1 m (pgSet pg k w.heap.size) D)
    (hg : (w.alloc (.cells (pageArr f) 122)).grownBy w1 (some m)) : RamIs w1 b m n (pgSet pg k w.heap.size) (fun i => if i / 4096 = k then f (i % 4096) else ct i) := by
  have hs := RamAt.self ⟨m, pg, h, rfl⟩
  have hlt : ∀ g, RamOwn m pg g → g < w.heap.size := fun g hg => RamAt.lt ⟨m, pg, h, rfl⟩ hg
  have hbm : b ≠ m := by rintro rfl; exact hs.1 (.inl rfl)
  have hold : ∀ g, g < w.heap.size → g ≠ m → w1.heap[g]? = w.heap[g]? := fun g hg1 hg2 => by
    rw [hg.block g (by simp; omega) (by simpa using hg2), blk_alloc_old _ _ _ hg1]
  have hmg : m < w.heap.size := hlt m (.inl rfl)
  have hnew : w1.heap[w.heap.size]? = some (.cells (pageArr f) 122 (0, 0)) := by
    rw [hg.block w.heap.size (by simp) (by simp; omega), blk_alloc]
  have hdm : ∀ k' j, j < 4096 → (4096 * k' + j) / 4096 = k' ∧ (4096 * k' + j) % 4096 = j := fun k' j hj => by omega
  refine ⟨(hold b hs.2 hbm).trans h.at_, h.lo, h.hi, ⟨D, hm⟩, fun k' g' hk' => ?_, fun k' hk' j hj => ?_, fun k1 k2 g' h1 h2 => ?_, fun i => ?_, fun k' hk' => ?_⟩
  · unfold pgSet at hk'
    by_cases e : k' = k
    · subst e
      rw [if_pos rfl] at hk'
      obtain rfl := Option.some.inj hk'
      rw [hnew]
      refine congrArg (fun c => some (Obj.cells c _ _)) (pageArr_congr fun j hj => ?_)
      rw [(hdm k' j hj).1, (hdm k' j hj).2, if_pos rfl]
    · rw [if_neg e] at hk'
      have hgm : g' ≠ m := by
        rintro rfl
        obtain ⟨es, c, hm⟩ := h.map_is
        rw [h.page k' g' hk'] at hm
        cases hm
      rw [hold g' (hlt g' (.inr ⟨k', hk'⟩)) hgm, h.page k' g' hk']
      refine congrArg (fun c => some (Obj.cells c _ _)) (pageArr_congr fun j hj => ?_)
      rw [(hdm k' j hj).1, if_neg e]
  · unfold pgSet at hk'
    by_cases e : k' = k
    · rw [if_pos e] at hk'; cases hk'
    · rw [if_neg e] at hk'
      show (if (4096 * k' + j) / 4096 = k then _ else _) = 0
      rw [(hdm k' j hj).1, if_neg e]
      exact h.zero k' hk' j hj
  · unfold pgSet at h1 h2
    by_cases e1 : k1 = k <;> by_cases e2 : k2 = k
    · rw [e1, e2]
    · rw [if_pos e1] at h1; rw [if_neg e2] at h2
      have := hlt g' (.inr ⟨k2, h2⟩)
      have := Option.some.inj h1
      omega
    · rw [if_neg e1] at h1; rw [if_pos e2] at h2
      have := hlt g' (.inr ⟨k1, h1⟩)
      have := Option.some.inj h2
      omega
    · rw [if_neg e1] at h1; rw [if_neg e2] at h2
      exact h.inj k1 k2 g' h1 h2
  · show (if i / 4096 = k then f (i % 4096) else ct i) < 256
    split
    · exact hf _
    · exact h.bd i
  · unfold pgSet at hk'
    by_cases e : k' = k
    · rw [e]; exact hk
    · rw [if_neg e] at hk'; exact h.small k' hk'
/-- the bytes of the pages that have been copied -/
def ctLeft (left : Lit → Bool) (ct : Nat → Nat) : Nat → Nat := fun i => if left (keyL (i / 4096)) then 0 else ct i
/-- the copy under way -/
def ForkR (w : World) (n m r : Nat) (pg : Nat → Option Nat) (ct : Nat → Nat) (D : DataW Unit) (wr : World) : Prop :=
  ∃ left cnt pg2, wr.ranges Try.prog 3 pgR m r (pgCount pg 256) D left cnt ∧ RamIs wr (w.heap.size + 1) w.heap.size n pg2 (ctLeft left ct) ∧ (∀ k, left (keyL k) = true → pg2 k = none) ∧ (∀ k g, pg2 k = some g → w.heap.size ≤ g) ∧ (∀ k, pg k = none → left (keyL k) = false) ∧ Below w.heap.size w wr
theorem pg_invK : ∀ key kl, keyOf Try.prog 3 key = some kl → ∃ x, key = Value.int .i64 x := fun key kl h => by
  obtain ⟨x, h1, _⟩ := Go.Maps.keyOf_int_inv Try.underlying3 h
  exact ⟨x, h1⟩
theorem pg_invV : ∀ v y, pgR v = some y → ∃ c, v = pgV c := fun v y h => by
  unfold pgR at h
  split at h
  · exact ⟨some _, rfl⟩
  · exact ⟨none, rfl⟩
  · cases h
theorem keyL_same (a k : Nat) : (keyL a).sameKey (keyL k) = decide (a = k) := by
  by_cases e : a = k
  · subst e; simp [keyL, Lit.sameKey]
  · have e2 : ¬ ((a : Int) = k) := by omega
    simp [keyL, Lit.sameKey, e, e2]
/-- the bytes after one more page -/
theorem ctLeft_step (left : Lit → Bool) (ct : Nat → Nat) (k : Nat) : (fun i => if i / 4096 = k then ct (4096 * k + i % 4096) else ctLeft left ct i) = ctLeft (fun z => left z && !z.sameKey (keyL k)) ct := by
  funext i
  unfold ctLeft
  show _ = if (left (keyL (i / 4096)) && !(keyL (i / 4096)).sameKey (keyL k)) = true then 0 else ct i
  rw [keyL_same]
  by_cases e : i / 4096 = k
  · rw [if_pos e, decide_eq_true e, if_neg (by simp)]
    congr 1
    omega
  · rw [if_neg e, decide_eq_false e]
    simp
/-- the entry that comes -/
theorem pg_entry {w : World} {m : Nat} {pg : Nat → Option Nat} {D : DataW Unit} (h : PgMap w m pg D) {x : Int} {p : Option Nat} {kl : Lit} {y : DataW Unit × List MemPlace} (hkey : keyOf Try.prog 3 (.int .i64 x) = some kl) (hv : pgR (pgV p) = some y) (hat : ∀ zd, D.atKey kl zd = y.1) :
    ∃ k g, x = ((k : Nat) : Int) ∧ kl = keyL k ∧ k < 256 ∧ p = some g ∧ pg k = some g := by
  obtain ⟨k, rfl, hk, hs⟩ := h.has kl (Go.Maps.has_true_of_atKey hat)
  obtain ⟨x', h1, h2, _⟩ := Go.Maps.keyOf_int_inv Try.underlying3 hkey
  injection h1 with _ h1
  subst h1
  unfold keyL at h2
  injection h2 with _ h2
  have hg := h.get k
  rw [hat] at hg
  rw [pgR_V] at hv
  have hy := Option.some.inj hv
  rw [← hy] at hg
  simp only at hg
  injection hg with hg
  injection hg with _ hg
  have hp := pgI_inj hg
  obtain ⟨g, hpg⟩ := Option.isSome_iff_exists.1 hs
  exact ⟨k, g, h2.symm, rfl, hk, hp.trans hpg, hpg⟩
attribute [local go_sem ↓] ld_page st_page
attribute [local go_sem] rl_page rs_page row_alloc row_drew row_drewN is_alloc is_drew is_drewN row_setCell is_setCell setRow_alloc_new objRow_cells objIs_cells
set_option maxHeartbeats 4000000 in
theorem ram_fork {w : World} {b m n : Nat} {pg : Nat → Option Nat} {ct : Nat → Nat} (h : RamIs w b m n pg ct) :
    Calls Try.prog 49 #[.pointer (some ⟨b, 0, none⟩)] w fun e w' => e = .returned (.pointer (some ⟨w.heap.size + 1, 0, none⟩)) ∧ Below w.heap.size w w' ∧ ∃ S, RamAt w' (w.heap.size + 1) n ct S ∧ ∀ g, S g → w.heap.size ≤ g := by
  obtain ⟨D, hD⟩ := h.map
  have c0 : w.cell? ⟨b, 0, none⟩ = some (.int .i64 n) := blk_cell h.at_ 0
  have c1 : w.cell? ⟨b, 1, none⟩ = some (.map (some m)) := blk_cell h.at_ 1
  have hbl : b < w.heap.size := blk_lt h.at_
  have H := Lib.hid h
  have HD := Lib.hid hD
  clear h hD
  have hmm := @run_makeMap Try.prog
  go_enter Try.func49, Try.ntmps49
  go_wp2_with (at_range; refine wpList_range_own _ rfl _ 112 rfl 3 120 keyI Try.underlying112 pgR m (pgCount pg 256) D rfl ((HD.out.own.alloc _).alloc _) ?_; intro w0 hrg0 hg0 hs0)
  go_frame
  have HN0 : Hid (RamIs ((w.alloc (.map #[] 0)).alloc (.cells #[.int .i64 n, .map (some w.heap.size)] 114)) (w.heap.size + 1) w.heap.size n (fun _ => none) (ctLeft (Go.Maps.has D) ct)) := by
    refine ⟨?_, H.out.lo, H.out.hi, ⟨.map [], (PgMap.new w).kept (blk_alloc_old _ _ _ (by simp))⟩, (fun k g h => by cases h), fun k _ j hj => ?_, (fun k k' g h => by cases h), fun i => ?_, (fun k h => by cases h)⟩
    · have := blk_alloc (w.alloc (.map #[] 0)) (.cells #[.int .i64 n, .map (some w.heap.size)] 114)
      simpa using this
    · unfold ctLeft
      rw [show (4096 * k + j) / 4096 = k by omega]
      split
      · rfl
      · rename_i hh
        cases hpk : pg k with
        | none => exact H.out.zero k hpk j hj
        | some g =>
          exfalso
          apply hh
          have hg := HD.out.get k
          rw [hpk] at hg
          cases hq : Go.Maps.has D (keyL k) with
          | true => rfl
          | false =>
            rw [Go.Maps.atKey_of_not_has hq] at hg
            injection hg with hg
            injection hg with _ hg
            simp [pgI] at hg
    · unfold ctLeft
      split
      · omega
      · exact H.out.bd i
  have er : ((w.alloc (Obj.map #[] 0)).alloc (Obj.cells #[Value.int IntKind.i64 n, Value.map (some w.heap.size)] 114)).heap.size = w.heap.size + 2 := by simp
  rw [er] at hrg0 ⊢
  have HB0 : Hid (Below w.heap.size w w0) := (((Below.refl w.heap.size w).alloc (Nat.le_refl _) _).alloc (by simp) _).grown hg0 (by simp; omega) (fun j hj => by cases hj)
  have HR0 := Lib.hid hrg0
  have HG0 := Lib.hid hg0
  clear hrg0 hg0 hs0 er hmm
  go_loopw [] (fun wr => ForkR w n m (w.heap.size + 2) pg ct D wr) (fun wr => wr.rangeLeft m (w.heap.size + 2))
  case atStart =>
    refine ⟨Go.Maps.has D, _, fun _ => none, HR0.out, HN0.out.keep (fun g hg => ?_), fun _ _ => rfl, (fun k g h => by cases h), fun k hk => ?_, HB0.out⟩
    · rcases hg with rfl | rfl | ⟨k, hk⟩
      · exact HG0.out.block _ (by simp <;> omega) (by simp)
      · exact HG0.out.block _ (by simp <;> omega) (by simp)
      · cases hk
    · cases hq : Go.Maps.has D (keyL k) with
      | false => rfl
      | true =>
        obtain ⟨k', e, _, h2⟩ := HD.out.has _ hq
        rw [← keyL_inj e, hk] at h2
        cases h2
  case round =>
    clear HR0 HG0 HB0 HN0
    obtain ⟨left, cnt, pg2, hrg, hram, hl1, hl2, hl3, hb⟩ := hrel
    have HRG := Lib.hid hrg
    have HRAM := Lib.hid hram
    have HL := Lib.hid (And.intro hl1 (And.intro hl2 hl3))
    have HB := Lib.hid hb
    clear hrg hram hl1 hl2 hl3 hb
    go_wp2_with (at_next; refine wpList_next_ranges _ rfl _ rfl 3 keyI pgR (Value.int .i64) pgV pg_invK pg_invV m (w.heap.size + 2) (pgCount pg 256) D left cnt rfl HRG.out ?_ ?_)
    · intro hc0 hl0
      have HL0 := Lib.hid hl0
      clear hl0 hc0
      go_wp2_with fail
      go_ret
      refine ⟨rfl, HB.out, RamOwn w.heap.size pg2, RamAt.ext ⟨_, _, HRAM.out, rfl⟩ (fun i => by unfold ctLeft; rw [HL0.out]; rfl), ?_⟩
      rintro g (rfl | ⟨k, hk⟩)
      · exact Nat.le_refl _
      · exact HL.out.2.1 k g hk
    · intro x p kl y1 y2 w1 cnt1 hkey hlk hv hat hrg1 hlt hg1 hs1 hen
      obtain ⟨k, g, rfl, rfl, hk256, rfl, hpg⟩ := pg_entry (y := (y1, y2)) HD.out hkey hv hat
      have hlt0 := HRG.out.lt
      have h2 := HL.out.1 k hlk
      have hgl : g < w.heap.size := RamAt.lt ⟨m, pg, H.out, rfl⟩ (.inr ⟨k, hpg⟩)
      have hkp : ∀ q, q < wr.heap.size → q ≠ w.heap.size + 2 → w1.heap[q]? = wr.heap[q]? := fun q h1 h2 => hg1.block q h1 (by simp; omega)
      have hpage : w1.heap[g]? = some (.cells (pageArr fun j => ct (4096 * k + j)) 122 (0, 0)) := by
        rw [hkp g (by omega) (by omega), HB.out.block g hgl]
        exact H.out.page k g hpg
      obtain ⟨r4, o4⟩ := page_row hpage
      have hpo := page_ok fun j => ct (4096 * k + j)
      have HRAM1 : Hid (RamIs w1 (w.heap.size + 1) w.heap.size n pg2 (ctLeft left ct)) := HRAM.out.keep fun q hq => by
        have hself := RamAt.self ⟨_, _, HRAM.out, rfl⟩
        rcases hq with rfl | hq
        · exact hkp _ hself.2 (by omega)
        · have hql := RamAt.lt ⟨_, _, HRAM.out, rfl⟩ hq
          refine hkp q hql ?_
          rintro rfl
          rcases hq with hq | ⟨k', hk'⟩
          · omega
          · have h5 := HRAM.out.page k' _ hk'
            obtain ⟨_, _, since, seen, c0, _, _, _, _, hr, _⟩ := HRG.out
            rw [hr] at h5
            cases h5
      obtain ⟨D2, hD2⟩ := HRAM1.out.map
      have HD2 := Lib.hid hD2
      have cm : w1.cell? ⟨w.heap.size + 1, 1, none⟩ = some (.map (some w.heap.size)) := blk_cell HRAM1.out.at_ 1
      have hbl2 : w.heap.size + 1 < w1.heap.size := blk_lt HRAM1.out.at_
      have hzs : (Try.zeroCells122.size == 4096) = true := by rw [zero_page, pageArr_size]; rfl
      have HKEY : Hid (keyOf Try.prog 3 (.int .i64 ((k : Nat) : Int)) = some (keyL k)) := keyOf_nat (by omega)
      have HS := Lib.hid (And.intro hlk (And.intro hrg1 (And.intro hlt (And.intro hg1 hpg))))
      have hgl1 : g < w1.heap.size := by have := hg1.size; omega
      have hv2 : pgV (some g) = .pointer (some ⟨g, 0, none⟩) := rfl
      rw [hv2] at hen ⊢
      clear hkey hlk hv hat hrg1 hlt hg1 hs1 hpg hpage hkp hD2
      go_wp2_with (at_mapUpdate; refine wpList_mapUpdate_own _ rfl _ _ _ 112 rfl 3 120 keyI Try.underlying112 pgR w.heap.size (pgCount pg2 256) D2 rfl (HD2.out.own.alloc _) (Nat.lt_of_le_of_lt (pgCount_le pg2 256) (by decide)) _ _ (keyL k) rfl rfl HKEY.out _ [] (pgR_V (some w1.heap.size)) ?_; intro w2 hown2 hgrow2; have HP2 := Lib.hid (put_page HRAM1.out h2 hk256 (fun j => H.out.bd _) (HD2.out.put hk256 h2 w1.heap.size hown2) hgrow2); have HG2 := Lib.hid hgrow2; clear hown2 hgrow2)
      have hne1 : w.heap.size ≠ m := fun e => by have := (RamAt.lt ⟨m, pg, H.out, rfl⟩ (.inl rfl) : m < w.heap.size); omega
      have hrg2 := (HS.out.2.1.alloc (.cells (pageArr fun j => ct (4096 * k + j)) 122)).kept HG2.out (fun e => hne1 (Option.some.inj e).symm) (fun e => by have := Option.some.inj e; omega)
      go_roundw
      case rel =>
        suffices hf : ForkR w n m (w.heap.size + 2) pg ct D w2 from ⟨_, _, _, _, _, _, _, _, _, _, _, _, _, _, _, _, hf, rfl⟩
        refine ⟨_, cnt1, pgSet pg2 k w1.heap.size, hrg2, ?_, fun k' hk' => ?_, fun k' g' hk' => ?_, fun k' hk' => ?_, ?_⟩
        · rw [← ctLeft_step]
          exact HP2.out
        · rw [keyL_same, Bool.and_eq_true, Bool.not_eq_true', decide_eq_false_iff_not] at hk'
          unfold pgSet
          rw [if_neg hk'.2]
          exact HL.out.1 k' hk'.1
        · unfold pgSet at hk'
          split at hk'
          · have := Option.some.inj hk'
            have := HB.out.size
            omega
          · exact HL.out.2.1 k' g' hk'
        · show (left (keyL k') && _) = false
          rw [HL.out.2.2 k' hk']
          rfl
        · exact ((HB.out.grown HS.out.2.2.2.1 (by omega) (fun j hj => by cases hj; omega)).alloc (by omega) _).grown HG2.out (by simp; omega) (fun j hj => by cases hj; omega)
      case measure =>
        rw [hrg2.left_eq, HRG.out.left_eq]
        exact HS.out.2.2.1
end Go.Proofs.Ytebdbbpefmgooaa
