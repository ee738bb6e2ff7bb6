/- Contracts of Ram.Fork: a copy of every page. No condition. Two arrays of integers held against each other. No condition. Contracts of Ram.Same: have both the same bytes? No condition. -/
import Derived.Test.YtkogjjeoihnjpaaGreatPack7
import Derived.Test.YtkogjjeoihnjpaaGreatPack36
import Derived.Deep.MidRow
import Derived.StillTailTactics
import Derived.BigRegion
import Derived.Deep.RegionWith
import Derived.Deep.RegionHeld3
import Derived.Deep.QuietTactic
import Derived.BigQuiet
import Derived.Deep.LoopGhost
import Derived.Deep.DeepCutAuto
import Derived.Deep.DeepFit
import Derived.Deep.DeepMust
import Derived.Handy
import Derived.Test.YtkogjjeoihnjpaaGreatPack6
import Derived.Stop.BytesEq
section
set_option linter.unusedVariables false
set_option linter.unusedSimpArgs false
namespace Go.Proofs.YtkogjjeoihnjpaaGreat
open Go.RowKit
set_option maxRecDepth 100000
/-! ### a page is loaded and stored in one step -/
theorem page_one (f : Nat → Nat) : (pageArr f).all (·.oneCell') = true := by
  rw [Array.all_eq_true]
  intro i hi
  have h := pageArr_get f i (by rw [pageArr_size] at hi; exact hi)
  rw [Array.getElem?_eq_getElem hi] at h
  rw [Option.some.inj h]
  rfl
theorem ld_page (x : Value) : Instr.loadAt 139 x = loadS 139 x := rfl
theorem st_page (x v : Value) : Instr.storeAt 139 x v = storeS 139 x v := rfl
theorem rl_page (w : World) (g : Nat) (h : rowIs w g 4096 = true) : (loadS 139 (.pointer (some ⟨g, 0, none⟩))).run Tryz.prog w = .ok (.agg (rowOf w g)) w :=
  run_loadS Tryz.prog 139 _ 4096 Tryz.underlying139 rfl (by kernel_rfl) w g h
theorem rs_page (w : World) (g : Nat) (C : Array Value) (h : rowIs w g 4096 = true) (hC : stOk 4096 C = true) : (storeS 139 (.pointer (some ⟨g, 0, none⟩)) (.agg C)).run Tryz.prog w = .ok () (w.setRow g C) :=
  run_storeS' Tryz.prog 139 4096 (by kernel_rfl) w g C h hC
theorem page_ok (f : Nat → Nat) : stOk 4096 (pageArr f) = true := by
  show ((pageArr f).size == 4096 && (pageArr f).all (·.oneCell')) = true
  rw [page_one f, Bool.and_true, beq_iff_eq]
  exact pageArr_size f
theorem page_row {w : World} {g : Nat} {f : Nat → Nat} {T : TypeId} (h : w.heap[g]? = some (.cells (pageArr f) T (0, 0))) : rowIs w g 4096 = true ∧ rowOf w g = pageArr f := ⟨by have := rowIs_of h; rw [pageArr_size] at this; exact this, rowOf_of h⟩
/-- a page put in whole -/
theorem put_page {w w1 : World} {b m n : Nat} {pg : Nat → Option Nat} {ct : Nat → Nat} (h : RamIs w b m n pg ct) {k : Nat} (hp : pg k = none) (hk : k < 256) {f : Nat → Nat} (hf : ∀ j, f j < 256) {D : DataW Unit} (hm : PgMap w1 m (pgSet pg k w.heap.size) D)
    (hg : (w.alloc (.cells (pageArr f) 139)).grownBy w1 (some m)) : RamIs w1 b m n (pgSet pg k w.heap.size) (fun i => if i / 4096 = k then f (i % 4096) else ct i) := by
  have hs := RamAt.self ⟨m, pg, h, rfl⟩
  have hlt : ∀ g, RamOwn m pg g → g < w.heap.size := fun g hg => RamAt.lt ⟨m, pg, h, rfl⟩ hg
  have hbm : b ≠ m := by rintro rfl; exact hs.1 (.inl rfl)
  have hold : ∀ g, g < w.heap.size → g ≠ m → w1.heap[g]? = w.heap[g]? := fun g hg1 hg2 => by
    rw [hg.block g (by simp; omega) (by simpa using hg2), blk_alloc_old _ _ _ hg1]
  have hmg : m < w.heap.size := hlt m (.inl rfl)
  have hnew : w1.heap[w.heap.size]? = some (.cells (pageArr f) 139 (0, 0)) := by
    rw [hg.block w.heap.size (by simp) (by simp; omega), blk_alloc]
  have hdm : ∀ k' j, j < 4096 → (4096 * k' + j) / 4096 = k' ∧ (4096 * k' + j) % 4096 = j := fun k' j hj => by omega
  refine ⟨(hold b hs.2 hbm).trans h.at_, h.lo, h.hi, ⟨D, hm⟩, fun k' g' hk' => ?_, fun k' hk' j hj => ?_, fun k1 k2 g' h1 h2 => ?_, fun i => ?_, fun k' hk' => ?_⟩
  · unfold pgSet at hk'
    by_cases e : k' = k
    · subst e
      rw [if_pos rfl] at hk'
      obtain rfl := Option.some.inj hk'
      rw [hnew]
      refine congrArg (fun c => some (Obj.cells c _ _)) (pageArr_congr fun j hj => ?_)
      rw [(hdm k' j hj).1, (hdm k' j hj).2, if_pos rfl]
    · rw [if_neg e] at hk'
      have hgm : g' ≠ m := by
        rintro rfl
        obtain ⟨es, c, hm⟩ := h.map_is
        rw [h.page k' g' hk'] at hm
        cases hm
      rw [hold g' (hlt g' (.inr ⟨k', hk'⟩)) hgm, h.page k' g' hk']
      refine congrArg (fun c => some (Obj.cells c _ _)) (pageArr_congr fun j hj => ?_)
      rw [(hdm k' j hj).1, if_neg e]
  · unfold pgSet at hk'
    by_cases e : k' = k
    · rw [if_pos e] at hk'; cases hk'
    · rw [if_neg e] at hk'
      show (if (4096 * k' + j) / 4096 = k then _ else _) = 0
      rw [(hdm k' j hj).1, if_neg e]
      exact h.zero k' hk' j hj
  · unfold pgSet at h1 h2
    by_cases e1 : k1 = k <;> by_cases e2 : k2 = k
    · rw [e1, e2]
    · rw [if_pos e1] at h1; rw [if_neg e2] at h2
      have := hlt g' (.inr ⟨k2, h2⟩)
      have := Option.some.inj h1
      omega
    · rw [if_neg e1] at h1; rw [if_pos e2] at h2
      have := hlt g' (.inr ⟨k1, h1⟩)
      have := Option.some.inj h2
      omega
    · rw [if_neg e1] at h1; rw [if_neg e2] at h2
      exact h.inj k1 k2 g' h1 h2
  · show (if i / 4096 = k then f (i % 4096) else ct i) < 256
    split
    · exact hf _
    · exact h.bd i
  · unfold pgSet at hk'
    by_cases e : k' = k
    · rw [e]; exact hk
    · rw [if_neg e] at hk'; exact h.small k' hk'
/-- the bytes of the pages that have been copied -/
def ctLeft (left : Lit → Bool) (ct : Nat → Nat) : Nat → Nat := fun i => if left (keyL (i / 4096)) then 0 else ct i
/-- the copy under way -/
def ForkR (w : World) (n m r : Nat) (pg : Nat → Option Nat) (ct : Nat → Nat) (D : DataW Unit) (wr : World) : Prop :=
  ∃ left cnt pg2, wr.ranges Tryz.prog 3 pgR m r (pgCount pg 256) D left cnt ∧ RamIs wr (w.heap.size + 1) w.heap.size n pg2 (ctLeft left ct) ∧ (∀ k, left (keyL k) = true → pg2 k = none) ∧ (∀ k g, pg2 k = some g → w.heap.size ≤ g) ∧ (∀ k, pg k = none → left (keyL k) = false) ∧ Below w.heap.size w wr
theorem pg_invK : ∀ key kl, keyOf Tryz.prog 3 key = some kl → ∃ x, key = Value.int .i64 x := fun key kl h => by
  obtain ⟨x, h1, _⟩ := Go.Maps.keyOf_int_inv Tryz.underlying3 h
  exact ⟨x, h1⟩
theorem pg_invV : ∀ v y, pgR v = some y → ∃ c, v = pgV c := fun v y h => by
  unfold pgR at h
  split at h
  · exact ⟨some _, rfl⟩
  · exact ⟨none, rfl⟩
  · cases h
theorem keyL_same (a k : Nat) : (keyL a).sameKey (keyL k) = decide (a = k) := by
  by_cases e : a = k
  · subst e; simp [keyL, Lit.sameKey]
  · have e2 : ¬ ((a : Int) = k) := by omega
    simp [keyL, Lit.sameKey, e, e2]
/-- the bytes after one more page -/
theorem ctLeft_step (left : Lit → Bool) (ct : Nat → Nat) (k : Nat) : (fun i => if i / 4096 = k then ct (4096 * k + i % 4096) else ctLeft left ct i) = ctLeft (fun z => left z && !z.sameKey (keyL k)) ct := by
  funext i
  unfold ctLeft
  show _ = if (left (keyL (i / 4096)) && !(keyL (i / 4096)).sameKey (keyL k)) = true then 0 else ct i
  rw [keyL_same]
  by_cases e : i / 4096 = k
  · rw [if_pos e, decide_eq_true e, if_neg (by simp)]
    congr 1
    omega
  · rw [if_neg e, decide_eq_false e]
    simp
/-- the entry that comes -/
theorem pg_entry {w : World} {m : Nat} {pg : Nat → Option Nat} {D : DataW Unit} (h : PgMap w m pg D) {x : Int} {p : Option Nat} {kl : Lit} {y : DataW Unit × List MemPlace} (hkey : keyOf Tryz.prog 3 (.int .i64 x) = some kl) (hv : pgR (pgV p) = some y) (hat : ∀ zd, D.atKey kl zd = y.1) :
    ∃ k g, x = ((k : Nat) : Int) ∧ kl = keyL k ∧ k < 256 ∧ p = some g ∧ pg k = some g := by
  obtain ⟨k, rfl, hk, hs⟩ := h.has kl (Go.Maps.has_true_of_atKey hat)
  obtain ⟨x', h1, h2, _⟩ := Go.Maps.keyOf_int_inv Tryz.underlying3 hkey
  injection h1 with _ h1
  subst h1
  unfold keyL at h2
  injection h2 with _ h2
  have hg := h.get k
  rw [hat] at hg
  rw [pgR_V] at hv
  have hy := Option.some.inj hv
  rw [← hy] at hg
  simp only at hg
  injection hg with hg
  injection hg with _ hg
  have hp := pgI_inj hg
  obtain ⟨g, hpg⟩ := Option.isSome_iff_exists.1 hs
  exact ⟨k, g, h2.symm, rfl, hk, hp.trans hpg, hpg⟩
attribute [local go_sem ↓] ld_page st_page
attribute [local go_sem] rl_page rs_page row_alloc row_drew row_drewN is_alloc is_drew is_drewN row_setCell is_setCell setRow_alloc_new objRow_cells objIs_cells
set_option maxHeartbeats 4000000 in
theorem ram_fork {w : World} {b m n : Nat} {pg : Nat → Option Nat} {ct : Nat → Nat} (h : RamIs w b m n pg ct) :
    Calls Tryz.prog 74 #[.pointer (some ⟨b, 0, none⟩)] w fun e w' => e = .returned (.pointer (some ⟨w.heap.size + 1, 0, none⟩)) ∧ Below w.heap.size w w' ∧ ∃ S, RamAt w' (w.heap.size + 1) n ct S ∧ ∀ g, S g → w.heap.size ≤ g := by
  obtain ⟨D, hD⟩ := h.map
  have c0 : w.cell? ⟨b, 0, none⟩ = some (.int .i64 n) := blk_cell h.at_ 0
  have c1 : w.cell? ⟨b, 1, none⟩ = some (.map (some m)) := blk_cell h.at_ 1
  have hbl : b < w.heap.size := blk_lt h.at_
  have H := Lib.hid h
  have HD := Lib.hid hD
  clear h hD
  have hmm := @run_makeMap Tryz.prog
  go_enter Tryz.func74, Tryz.ntmps74
  go_wp2_with (at_range; refine wpList_range_own _ rfl _ 134 rfl 3 137 keyI Tryz.underlying134 pgR m (pgCount pg 256) D rfl ((HD.out.own.alloc _).alloc _) ?_; intro w0 hrg0 hg0 hs0)
  go_frame
  have HN0 : Hid (RamIs ((w.alloc (.map #[] 0)).alloc (.cells #[.int .i64 n, .map (some w.heap.size)] 136)) (w.heap.size + 1) w.heap.size n (fun _ => none) (ctLeft (Go.Maps.has D) ct)) := by
    refine ⟨?_, H.out.lo, H.out.hi, ⟨.map [], (PgMap.new w).kept (blk_alloc_old _ _ _ (by simp))⟩, (fun k g h => by cases h), fun k _ j hj => ?_, (fun k k' g h => by cases h), fun i => ?_, (fun k h => by cases h)⟩
    · have := blk_alloc (w.alloc (.map #[] 0)) (.cells #[.int .i64 n, .map (some w.heap.size)] 136)
      simpa using this
    · unfold ctLeft
      rw [show (4096 * k + j) / 4096 = k by omega]
      split
      · rfl
      · rename_i hh
        cases hpk : pg k with
        | none => exact H.out.zero k hpk j hj
        | some g =>
          exfalso
          apply hh
          have hg := HD.out.get k
          rw [hpk] at hg
          cases hq : Go.Maps.has D (keyL k) with
          | true => rfl
          | false =>
            rw [Go.Maps.atKey_of_not_has hq] at hg
            injection hg with hg
            injection hg with _ hg
            simp [pgI] at hg
    · unfold ctLeft
      split
      · omega
      · exact H.out.bd i
  have er : ((w.alloc (Obj.map #[] 0)).alloc (Obj.cells #[Value.int IntKind.i64 n, Value.map (some w.heap.size)] 136)).heap.size = w.heap.size + 2 := by simp
  rw [er] at hrg0 ⊢
  have HB0 : Hid (Below w.heap.size w w0) := (((Below.refl w.heap.size w).alloc (Nat.le_refl _) _).alloc (by simp) _).grown hg0 (by simp; omega) (fun j hj => by cases hj)
  have HR0 := Lib.hid hrg0
  have HG0 := Lib.hid hg0
  clear hrg0 hg0 hs0 er hmm
  go_loopw [] (fun wr => ForkR w n m (w.heap.size + 2) pg ct D wr) (fun wr => wr.rangeLeft m (w.heap.size + 2))
  case atStart =>
    refine ⟨Go.Maps.has D, _, fun _ => none, HR0.out, HN0.out.keep (fun g hg => ?_), fun _ _ => rfl, (fun k g h => by cases h), fun k hk => ?_, HB0.out⟩
    · rcases hg with rfl | rfl | ⟨k, hk⟩
      · exact HG0.out.block _ (by simp <;> omega) (by simp)
      · exact HG0.out.block _ (by simp <;> omega) (by simp)
      · cases hk
    · cases hq : Go.Maps.has D (keyL k) with
      | false => rfl
      | true =>
        obtain ⟨k', e, _, h2⟩ := HD.out.has _ hq
        rw [← keyL_inj e, hk] at h2
        cases h2
  case round =>
    clear HR0 HG0 HB0 HN0
    obtain ⟨left, cnt, pg2, hrg, hram, hl1, hl2, hl3, hb⟩ := hrel
    have HRG := Lib.hid hrg
    have HRAM := Lib.hid hram
    have HL := Lib.hid (And.intro hl1 (And.intro hl2 hl3))
    have HB := Lib.hid hb
    clear hrg hram hl1 hl2 hl3 hb
    go_wp2_with (at_next; refine wpList_next_ranges _ rfl _ rfl 3 keyI pgR (Value.int .i64) pgV pg_invK pg_invV m (w.heap.size + 2) (pgCount pg 256) D left cnt rfl HRG.out ?_ ?_)
    · intro hc0 hl0
      have HL0 := Lib.hid hl0
      clear hl0 hc0
      go_wp2_with fail
      go_ret
      refine ⟨rfl, HB.out, RamOwn w.heap.size pg2, RamAt.ext ⟨_, _, HRAM.out, rfl⟩ (fun i => by unfold ctLeft; rw [HL0.out]; rfl), ?_⟩
      rintro g (rfl | ⟨k, hk⟩)
      · exact Nat.le_refl _
      · exact HL.out.2.1 k g hk
    · intro x p kl y1 y2 w1 cnt1 hkey hlk hv hat hrg1 hlt hg1 hs1 hen
      obtain ⟨k, g, rfl, rfl, hk256, rfl, hpg⟩ := pg_entry (y := (y1, y2)) HD.out hkey hv hat
      have hlt0 := HRG.out.lt
      have h2 := HL.out.1 k hlk
      have hgl : g < w.heap.size := RamAt.lt ⟨m, pg, H.out, rfl⟩ (.inr ⟨k, hpg⟩)
      have hkp : ∀ q, q < wr.heap.size → q ≠ w.heap.size + 2 → w1.heap[q]? = wr.heap[q]? := fun q h1 h2 => hg1.block q h1 (by simp; omega)
      have hpage : w1.heap[g]? = some (.cells (pageArr fun j => ct (4096 * k + j)) 139 (0, 0)) := by
        rw [hkp g (by omega) (by omega), HB.out.block g hgl]
        exact H.out.page k g hpg
      obtain ⟨r4, o4⟩ := page_row hpage
      have hpo := page_ok fun j => ct (4096 * k + j)
      have HRAM1 : Hid (RamIs w1 (w.heap.size + 1) w.heap.size n pg2 (ctLeft left ct)) := HRAM.out.keep fun q hq => by
        have hself := RamAt.self ⟨_, _, HRAM.out, rfl⟩
        rcases hq with rfl | hq
        · exact hkp _ hself.2 (by omega)
        · have hql := RamAt.lt ⟨_, _, HRAM.out, rfl⟩ hq
          refine hkp q hql ?_
          rintro rfl
          rcases hq with hq | ⟨k', hk'⟩
          · omega
          · have h5 := HRAM.out.page k' _ hk'
            obtain ⟨_, _, since, seen, c0, _, _, _, _, hr, _⟩ := HRG.out
            rw [hr] at h5
            cases h5
      obtain ⟨D2, hD2⟩ := HRAM1.out.map
      have HD2 := Lib.hid hD2
      have cm : w1.cell? ⟨w.heap.size + 1, 1, none⟩ = some (.map (some w.heap.size)) := blk_cell HRAM1.out.at_ 1
      have hbl2 : w.heap.size + 1 < w1.heap.size := blk_lt HRAM1.out.at_
      have hzs : (Tryz.zeroCells139.size == 4096) = true := by rw [zero_page, pageArr_size]; rfl
      have HKEY : Hid (keyOf Tryz.prog 3 (.int .i64 ((k : Nat) : Int)) = some (keyL k)) := keyOf_nat (by omega)
      have HS := Lib.hid (And.intro hlk (And.intro hrg1 (And.intro hlt (And.intro hg1 hpg))))
      have hgl1 : g < w1.heap.size := by have := hg1.size; omega
      have hv2 : pgV (some g) = .pointer (some ⟨g, 0, none⟩) := rfl
      rw [hv2] at hen ⊢
      clear hkey hlk hv hat hrg1 hlt hg1 hs1 hpg hpage hkp hD2
      go_wp2_with (at_mapUpdate; refine wpList_mapUpdate_own _ rfl _ _ _ 134 rfl 3 137 keyI Tryz.underlying134 pgR w.heap.size (pgCount pg2 256) D2 rfl (HD2.out.own.alloc _) (Nat.lt_of_le_of_lt (pgCount_le pg2 256) (by decide)) _ _ (keyL k) rfl rfl HKEY.out _ [] (pgR_V (some w1.heap.size)) ?_; intro w2 hown2 hgrow2; have HP2 := Lib.hid (put_page HRAM1.out h2 hk256 (fun j => H.out.bd _) (HD2.out.put hk256 h2 w1.heap.size hown2) hgrow2); have HG2 := Lib.hid hgrow2; clear hown2 hgrow2)
      have hne1 : w.heap.size ≠ m := fun e => by have := (RamAt.lt ⟨m, pg, H.out, rfl⟩ (.inl rfl) : m < w.heap.size); omega
      have hrg2 := (HS.out.2.1.alloc (.cells (pageArr fun j => ct (4096 * k + j)) 139)).kept HG2.out (fun e => hne1 (Option.some.inj e).symm) (fun e => by have := Option.some.inj e; omega)
      go_roundw
      case rel =>
        suffices hf : ForkR w n m (w.heap.size + 2) pg ct D w2 from ⟨_, _, _, _, _, _, _, _, _, _, _, _, _, _, _, _, hf, rfl⟩
        refine ⟨_, cnt1, pgSet pg2 k w1.heap.size, hrg2, ?_, fun k' hk' => ?_, fun k' g' hk' => ?_, fun k' hk' => ?_, ?_⟩
        · rw [← ctLeft_step]
          exact HP2.out
        · rw [keyL_same, Bool.and_eq_true, Bool.not_eq_true', decide_eq_false_iff_not] at hk'
          unfold pgSet
          rw [if_neg hk'.2]
          exact HL.out.1 k' hk'.1
        · unfold pgSet at hk'
          split at hk'
          · have := Option.some.inj hk'
            have := HB.out.size
            omega
          · exact HL.out.2.1 k' g' hk'
        · show (left (keyL k') && _) = false
          rw [HL.out.2.2 k' hk']
          rfl
        · exact ((HB.out.grown HS.out.2.2.2.1 (by omega) (fun j hj => by cases hj; omega)).alloc (by omega) _).grown HG2.out (by simp; omega) (fun j hj => by cases hj; omega)
      case measure =>
        rw [hrg2.left_eq, HRG.out.left_eq]
        exact HS.out.2.2.1
end Go.Proofs.YtkogjjeoihnjpaaGreat
end
section
set_option linter.unusedVariables false
set_option linter.unusedSimpArgs false
namespace Go.Proofs.YtkogjjeoihnjpaaGreat
open Go.RowKit
theorem all_getD (xs : List Int) : ∀ (ys : List Int), xs.length = ys.length → (List.range xs.length).all (fun i => xs.getD i 0 == ys.getD i 0) = (xs == ys) := by
  induction xs with
  | nil => intro ys h; cases ys with
    | nil => rfl
    | cons y ys => simp at h
  | cons x xs ih =>
    intro ys h
    cases ys with
    | nil => simp at h
    | cons y ys =>
      have ih := ih ys (by simpa using h)
      rw [List.length_cons, List.range_succ_eq_map, List.all_cons, List.all_map]
      simp only [List.getD_cons_zero, Function.comp_def, List.getD_cons_succ, ih]
      simp [List.cons_beq_cons]
theorem run_equalIn_ints {P : Program} (w : World) (d : Nat) (t e : TypeId) (K : IntKind) (n : Nat) (ht : P.underlying t = some (.array n e)) (he : P.underlying e = some (.int K)) (hsz : ∀ w, (sizeOf e).run P w = .ok 1 w)
    (xs ys : List Int) (hx : xs.length = n) (hy : ys.length = n) :
    (Op.equalIn (d + 2) t (.agg (xs.map (Value.int K)).toArray) (.agg (ys.map (Value.int K)).toArray)).run P w = .ok (xs == ys) w := by
  rw [← all_getD xs ys (hx.trans hy.symm), hx, List.range_eq_range', Op.equalIn]
  simp only [Sem.run_bind, run_underlying ht, Result.andThen_ok, hsz, Std.Legacy.Range.forIn_eq_forIn_range', Std.Legacy.Range.size, Nat.sub_zero, Nat.add_sub_cancel, Nat.div_one]
  have hl : ∀ i ∈ List.range' 0 n 1, i < n := fun i hi => by simpa using (List.mem_range'_1.1 hi).2
  generalize List.range' 0 n 1 = l at hl ⊢
  induction l with
  | nil => simp
  | cons i l ih =>
    have hi : i < n := hl i (by simp)
    have px : (part e (xs.map (Value.int K)).toArray (i * 1)).run P w = .ok (Value.int K (xs.getD i 0)) w := by
      simp [part, isAgg, run_underlying he, List.getD, List.getElem?_eq_getElem (show i < xs.length by omega)]
    have py : (part e (ys.map (Value.int K)).toArray (i * 1)).run P w = .ok (Value.int K (ys.getD i 0)) w := by
      simp [part, isAgg, run_underlying he, List.getD, List.getElem?_eq_getElem (show i < ys.length by omega)]
    have pe : (Op.equalIn (d + 1) e (Value.int K (xs.getD i 0)) (Value.int K (ys.getD i 0))).run P w = .ok (xs.getD i 0 == ys.getD i 0) w := run_equalIn_int w d e K K _ _ he
    simp only [List.forIn_cons, Sem.run_bind, px, py, pe, Result.andThen_ok, List.all_cons]
    cases hb : (xs.getD i 0 == ys.getD i 0)
    · simp
    · simp only [Bool.not_true, Bool.false_eq_true, if_false, Sem.run_pure, Result.andThen_ok, Bool.true_and]
      exact ih fun j hj => hl j (by simp [hj])
end Go.Proofs.YtkogjjeoihnjpaaGreat
end
section
set_option linter.unusedVariables false
set_option linter.unusedSimpArgs false
namespace Go.Proofs.YtkogjjeoihnjpaaGreat
open Go.RowKit
set_option maxRecDepth 100000
theorem sz_u8 (w : World) : (sizeOf 5).run Tryz.prog w = .ok 1 w := by kernel_rfl
/-- are two pages alike? -/
def pgEq (f g : Nat → Nat) : Bool := ((List.range 4096).map fun j => (f j : Int)) == (List.range 4096).map fun j => (g j : Int)
theorem pgEq_iff (f g : Nat → Nat) : pgEq f g = true ↔ ∀ j, j < 4096 → f j = g j := by
  unfold pgEq
  rw [beq_iff_eq]
  constructor
  · intro h j hj
    have h2 := congrArg (fun l : List Int => l[j]?) h
    simp [hj] at h2
    omega
  · intro h
    refine List.map_congr_left fun j hj => ?_
    rw [h j (List.mem_range.1 hj)]
theorem pageArr_list (f : Nat → Nat) : pageArr f = (((List.range 4096).map fun j => (f j : Int)).map (Value.int .u8)).toArray := by
  unfold pageArr
  rw [List.map_map]
  rfl
theorem eq_page (f g : Nat → Nat) (w : World) : (Op.equalIn 10000 139 (.agg (pageArr f)) (.agg (pageArr g))).run Tryz.prog w = .ok (pgEq f g) w := by
  have h := run_equalIn_ints (P := Tryz.prog) w 9998 139 5 .u8 4096 Tryz.underlying139 Tryz.underlying5 sz_u8 ((List.range 4096).map fun j => (f j : Int)) ((List.range 4096).map fun j => (g j : Int)) (by rw [List.length_map, List.length_range]) (by rw [List.length_map, List.length_range])
  rw [← pageArr_list, ← pageArr_list] at h
  exact h
/-- the bytes of both memories are alike -/
def AllEq (n : Nat) (f g : Nat → Nat) : Prop := ∀ i, i < 4096 * n → f i = g i
theorem AllEq.page {n : Nat} {f g : Nat → Nat} (h : AllEq n f g) (he : pgEq (fun j => f (4096 * n + j)) (fun j => g (4096 * n + j)) = true) : AllEq (n + 1) f g := fun i hi => by
  by_cases e : i < 4096 * n
  · exact h i e
  · have := (pgEq_iff _ _).1 he (i - 4096 * n) (by omega)
    rw [show 4096 * n + (i - 4096 * n) = i by omega] at this
    exact this
theorem AllEq.not {n k : Nat} {f g : Nat → Nat} (hk : k < n) (he : pgEq (fun j => f (4096 * k + j)) (fun j => g (4096 * k + j)) = false) : ¬ AllEq n f g := fun h => by
  rw [(pgEq_iff _ _).2 fun j hj => h _ (by omega)] at he
  cases he
/-- a page's bytes, as Same reads them -/
def pgF (p : Option Nat) (ct : Nat → Nat) (k : Nat) : Nat → Nat := match p with | none => fun _ => 0 | some _ => fun j => ct (4096 * k + j)
theorem pgF_eq {p p2 : Option Nat} {ct ct2 : Nat → Nat} {k : Nat} (h1 : p = none → ∀ j, j < 4096 → ct (4096 * k + j) = 0) (h2 : p2 = none → ∀ j, j < 4096 → ct2 (4096 * k + j) = 0) :
    pgEq (pgF p ct k) (pgF p2 ct2 k) = pgEq (fun j => ct (4096 * k + j)) (fun j => ct2 (4096 * k + j)) := by
  rw [Bool.eq_iff_iff, pgEq_iff, pgEq_iff]
  have e1 : ∀ j, j < 4096 → pgF p ct k j = ct (4096 * k + j) := fun j hj => by
    cases p with
    | none => exact (h1 rfl j hj).symm
    | some g => rfl
  have e2 : ∀ j, j < 4096 → pgF p2 ct2 k j = ct2 (4096 * k + j) := fun j hj => by
    cases p2 with
    | none => exact (h2 rfl j hj).symm
    | some g => rfl
  exact ⟨fun h j hj => by rw [← e1 j hj, ← e2 j hj]; exact h j hj, fun h j hj => by rw [e1 j hj, e2 j hj]; exact h j hj⟩
/-- a page's cells, as Same loads them -/
noncomputable def pgC (p : Option Nat) (ct : Nat → Nat) (k : Nat) : Array Value := match p with | none => Tryz.zeroCells139 | some _ => pageArr fun j => ct (4096 * k + j)
theorem pgC_eq (p : Option Nat) (ct : Nat → Nat) (k : Nat) : pgC p ct k = pageArr (pgF p ct k) := by
  cases p with
  | none => exact zero_page
  | some g => rfl
theorem eq_pages {p p2 : Option Nat} {ct ct2 : Nat → Nat} {k : Nat} (w : World) (h1 : p = none → ∀ j, j < 4096 → ct (4096 * k + j) = 0) (h2 : p2 = none → ∀ j, j < 4096 → ct2 (4096 * k + j) = 0) :
    (Op.equalIn 10000 139 (.agg (pgC p ct k)) (.agg (pgC p2 ct2 k))).run Tryz.prog w = .ok (pgEq (fun j => ct (4096 * k + j)) (fun j => ct2 (4096 * k + j))) w := by
  rw [pgC_eq, pgC_eq, eq_page, pgF_eq h1 h2]
theorem zero_size : (Tryz.zeroCells139.size == 4096) = true := by rw [zero_page, pageArr_size]; rfl
theorem below_drewN {B : Nat} {a w : World} (h : Below B a w) (n : Nat) : Below B a (w.drewN n) := h.trans ⟨rfl, rfl, rfl, Nat.le_refl _, fun _ _ => rfl⟩
attribute [local go_sem ↓] ld_page st_page
attribute [local go_sem] rl_page rs_page row_alloc row_drew row_drewN is_alloc is_drew is_drewN row_setCell is_setCell setRow_alloc_new objRow_cells objIs_cells
set_option maxHeartbeats 4000000 in
theorem ram_same {w : World} {b b2 m m2 n : Nat} {pg pg2 : Nat → Option Nat} {ct ct2 : Nat → Nat} (h : RamIs w b m n pg ct) (h2 : RamIs w b2 m2 n pg2 ct2) :
    Calls Tryz.prog 33 #[.pointer (some ⟨b, 0, none⟩), .pointer (some ⟨b2, 0, none⟩)] w fun e w' => (∃ v, e = .returned (.bool v) ∧ (v = true ↔ AllEq n ct ct2)) ∧ Below w.heap.size w w' := by
  have c0 : w.cell? ⟨b, 0, none⟩ = some (.int .i64 n) := blk_cell h.at_ 0
  have c1 : w.cell? ⟨b, 1, none⟩ = some (.map (some m)) := blk_cell h.at_ 1
  have d0 : w.cell? ⟨b2, 0, none⟩ = some (.int .i64 n) := blk_cell h2.at_ 0
  have d1 : w.cell? ⟨b2, 1, none⟩ = some (.map (some m2)) := blk_cell h2.at_ 1
  have hbl : b < w.heap.size := blk_lt h.at_
  have hbl2 : b2 < w.heap.size := blk_lt h2.at_
  have hn : (n : Int) ≤ 256 := by have := h.hi; omega
  have hmx : max (n : Int) n = n := by omega
  have hmx2 : max n n = n := by omega
  have HN0 : AllEq 0 ct ct2 := fun i hi => by omega
  have H := Lib.hid h
  have H2 := Lib.hid h2
  clear h h2
  go_enter Tryz.func33, Tryz.ntmps33
  go_upto_region 3 with fail
  go_quiet (fail)
  go_wp2_with fail
  go_loopw [29] (fun i wr => ∃ k : Nat, k ≤ n ∧ i = .int .i64 k ∧ AllEq k ct ct2 ∧ Below w.heap.size w wr) (fun i _ => n - (intOf i).toNat)
  case atStart => exact ⟨0, Nat.zero_le _, rfl, HN0, by first | exact below_drewN (Below.refl _ _) _ | exact Below.refl _ _⟩
  case round =>
    obtain ⟨k, hk, rfl, hall, hb⟩ := hrel
    have HALL := Lib.hid hall
    have HB := Lib.hid hb
    clear hall hb
    by_cases hlt : k < n
    · have r0 : wr.heap[b]? = w.heap[b]? := HB.out.block b hbl
      have q0 : wr.heap[b2]? = w.heap[b2]? := HB.out.block b2 hbl2
      have e1 : wr.cell? ⟨b, 1, none⟩ = some (.map (some m)) := blk_cell (r0.trans H.out.at_) 1
      have f1 : wr.cell? ⟨b2, 1, none⟩ = some (.map (some m2)) := blk_cell (q0.trans H2.out.at_) 1
      obtain ⟨D, hD⟩ := H.out.map
      obtain ⟨D2, hD2⟩ := H2.out.map
      have hk3 : k < 256 := by have := H.out.hi; omega
      have hl1 := fun q => (hD.kept (w' := wr.drewN q) (HB.out.block m H.out.map_lt)).lookup hk3
      have hl2 := fun q => (hD2.kept (w' := wr.drewN q) (HB.out.block m2 H2.out.map_lt)).lookup hk3
      clear hD hD2
      go_wp2_with fail
      go_quiet (fail)
      have hz1 : pg k = none → ∀ j, j < 4096 → ct (4096 * k + j) = 0 := H.out.zero k
      have hz2 : pg2 k = none → ∀ j, j < 4096 → ct2 (4096 * k + j) = 0 := H2.out.zero k
      have hE := fun w => eq_pages (k := k) w hz1 hz2
      clear hz1 hz2
      cases he : pgEq (fun j => ct (4096 * k + j)) (fun j => ct2 (4096 * k + j)) with
      | true =>
        have HE := Lib.hid he
        simp only [he] at hE
        clear he
        rcases hp1 : pg k with _ | g1 <;> rcases hp2 : pg2 k with _ | g2 <;> simp only [hp1, hp2] at hE <;> simp only [pgC, pgV] at hE ⊢
        · clear hl1 hl2 e1 f1 r0 q0 hp1 hp2
          have hzs := zero_size
          go_upto_region 11 with fail
          generalize Tryz.zeroCells139 = Z at hE hzs ⊢
          generalize hW : ((wr.drewN nq).alloc (.cells Z 139)).alloc (.cells Z 139) = W
          have r1 : rowIs W wr.heap.size 4096 = true := by rw [← hW]; exact (is_alloc_old _ _ _ _ (by simp)).trans ((is_alloc_new _ _ _ _).trans hzs)
          have o1 : rowOf W wr.heap.size = Z := by rw [← hW]; exact (row_alloc_old _ _ _ (by simp)).trans (row_alloc_new _ _ _ _)
          have r2 : rowIs W (wr.heap.size + 1) 4096 = true := by rw [← hW]; have := is_alloc_new ((wr.drewN nq).alloc (.cells Z 139)) Z 139 4096; simp at this; exact this.trans (by simpa using hzs)
          have o2 : rowOf W (wr.heap.size + 1) = Z := by rw [← hW]; have := row_alloc_new ((wr.drewN nq).alloc (.cells Z 139)) Z 139 (0, 0); simpa using this
          have HBW : Hid (Below w.heap.size w W) := by rw [← hW]; exact by repeat first | exact HB.out | refine below_drewN ?_ _ | refine Below.alloc ?_ (by have := HB.out.size; first | omega | (simp; omega)) _
          obtain ⟨Z2, hz2⟩ : ∃ Z2, Z = Z2 := ⟨_, rfl⟩
          have o3 := o2.trans hz2
          have hE2 : ∀ w, (Op.equalIn 10000 139 (.agg Z) (.agg Z2)).run Tryz.prog w = .ok true w := fun w => by rw [← hz2]; exact hE w
          clear hW hzs o2 hE hz2
          go_quiet (fail)
          go_wp2_with fail
          go_roundw
          case rel => exact ⟨k + 1, hlt, by go_num, HALL.out.page HE.out, by repeat first | exact HBW.out | refine below_drewN ?_ _⟩
          case measure => simp [intOf]; omega
        · have hg2 : g2 < w.heap.size := RamAt.lt ⟨m2, pg2, H2.out, rfl⟩ (.inr ⟨k, hp2⟩)
          obtain ⟨rb, ob⟩ := page_row ((HB.out.block g2 hg2).trans (H2.out.page k g2 hp2))
          have hgb : g2 < wr.heap.size := by have := HB.out.size; omega
          clear hl1 hl2 e1 f1 r0 q0 hp1 hp2
          have hzs := zero_size
          go_upto_region 11 with fail
          generalize Tryz.zeroCells139 = Z at hE hzs ⊢
          go_quiet (fail)
          go_wp2_with fail
          go_roundw
          case rel => exact ⟨k + 1, hlt, by go_num, HALL.out.page HE.out, by repeat first | exact HB.out | refine below_drewN ?_ _ | refine Below.alloc ?_ (by have := HB.out.size; first | omega | (simp; omega)) _⟩
          case measure => simp [intOf]; omega
        · have hg1 : g1 < w.heap.size := RamAt.lt ⟨m, pg, H.out, rfl⟩ (.inr ⟨k, hp1⟩)
          obtain ⟨ra, oa⟩ := page_row ((HB.out.block g1 hg1).trans (H.out.page k g1 hp1))
          have hga : g1 < wr.heap.size := by have := HB.out.size; omega
          clear hl1 hl2 e1 f1 r0 q0 hp1 hp2
          have hzs := zero_size
          go_upto_region 11 with fail
          generalize Tryz.zeroCells139 = Z at hE hzs ⊢
          go_quiet (fail)
          go_wp2_with fail
          go_roundw
          case rel => exact ⟨k + 1, hlt, by go_num, HALL.out.page HE.out, by repeat first | exact HB.out | refine below_drewN ?_ _ | refine Below.alloc ?_ (by have := HB.out.size; first | omega | (simp; omega)) _⟩
          case measure => simp [intOf]; omega
        · have hg1 : g1 < w.heap.size := RamAt.lt ⟨m, pg, H.out, rfl⟩ (.inr ⟨k, hp1⟩)
          obtain ⟨ra, oa⟩ := page_row ((HB.out.block g1 hg1).trans (H.out.page k g1 hp1))
          have hga : g1 < wr.heap.size := by have := HB.out.size; omega
          have hg2 : g2 < w.heap.size := RamAt.lt ⟨m2, pg2, H2.out, rfl⟩ (.inr ⟨k, hp2⟩)
          obtain ⟨rb, ob⟩ := page_row ((HB.out.block g2 hg2).trans (H2.out.page k g2 hp2))
          have hgb : g2 < wr.heap.size := by have := HB.out.size; omega
          clear hl1 hl2 e1 f1 r0 q0 hp1 hp2
          go_wp2_with fail
          go_quiet (fail)
          go_wp2_with fail
          go_roundw
          case rel => exact ⟨k + 1, hlt, by go_num, HALL.out.page HE.out, by repeat first | exact HB.out | refine below_drewN ?_ _ | refine Below.alloc ?_ (by have := HB.out.size; first | omega | (simp; omega)) _⟩
          case measure => simp [intOf]; omega
      | false =>
        have HE := Lib.hid he
        simp only [he] at hE
        clear he
        rcases hp1 : pg k with _ | g1 <;> rcases hp2 : pg2 k with _ | g2 <;> simp only [hp1, hp2] at hE <;> simp only [pgC, pgV] at hE ⊢
        · clear hl1 hl2 e1 f1 r0 q0 hp1 hp2
          have hzs := zero_size
          go_upto_region 11 with fail
          generalize Tryz.zeroCells139 = Z at hE hzs ⊢
          generalize hW : ((wr.drewN nq).alloc (.cells Z 139)).alloc (.cells Z 139) = W
          have r1 : rowIs W wr.heap.size 4096 = true := by rw [← hW]; exact (is_alloc_old _ _ _ _ (by simp)).trans ((is_alloc_new _ _ _ _).trans hzs)
          have o1 : rowOf W wr.heap.size = Z := by rw [← hW]; exact (row_alloc_old _ _ _ (by simp)).trans (row_alloc_new _ _ _ _)
          have r2 : rowIs W (wr.heap.size + 1) 4096 = true := by rw [← hW]; have := is_alloc_new ((wr.drewN nq).alloc (.cells Z 139)) Z 139 4096; simp at this; exact this.trans (by simpa using hzs)
          have o2 : rowOf W (wr.heap.size + 1) = Z := by rw [← hW]; have := row_alloc_new ((wr.drewN nq).alloc (.cells Z 139)) Z 139 (0, 0); simpa using this
          have HBW : Hid (Below w.heap.size w W) := by rw [← hW]; exact by repeat first | exact HB.out | refine below_drewN ?_ _ | refine Below.alloc ?_ (by have := HB.out.size; first | omega | (simp; omega)) _
          obtain ⟨Z2, hz2⟩ : ∃ Z2, Z = Z2 := ⟨_, rfl⟩
          have o3 := o2.trans hz2
          have hE2 : ∀ w, (Op.equalIn 10000 139 (.agg Z) (.agg Z2)).run Tryz.prog w = .ok false w := fun w => by rw [← hz2]; exact hE w
          clear hW hzs o2 hE hz2
          go_quiet (fail)
          go_wp2_with fail
          go_ret
          exact ⟨⟨false, rfl, fun h => (by cases h), fun h => absurd h (AllEq.not hlt HE.out)⟩, by repeat first | exact HBW.out | refine below_drewN ?_ _⟩
        · have hg2 : g2 < w.heap.size := RamAt.lt ⟨m2, pg2, H2.out, rfl⟩ (.inr ⟨k, hp2⟩)
          obtain ⟨rb, ob⟩ := page_row ((HB.out.block g2 hg2).trans (H2.out.page k g2 hp2))
          have hgb : g2 < wr.heap.size := by have := HB.out.size; omega
          clear hl1 hl2 e1 f1 r0 q0 hp1 hp2
          have hzs := zero_size
          go_upto_region 11 with fail
          generalize Tryz.zeroCells139 = Z at hE hzs ⊢
          go_quiet (fail)
          go_wp2_with fail
          go_ret
          exact ⟨⟨false, rfl, fun h => (by cases h), fun h => absurd h (AllEq.not hlt HE.out)⟩, by repeat first | exact HB.out | refine below_drewN ?_ _ | refine Below.alloc ?_ (by have := HB.out.size; first | omega | (simp; omega)) _⟩
        · have hg1 : g1 < w.heap.size := RamAt.lt ⟨m, pg, H.out, rfl⟩ (.inr ⟨k, hp1⟩)
          obtain ⟨ra, oa⟩ := page_row ((HB.out.block g1 hg1).trans (H.out.page k g1 hp1))
          have hga : g1 < wr.heap.size := by have := HB.out.size; omega
          clear hl1 hl2 e1 f1 r0 q0 hp1 hp2
          have hzs := zero_size
          go_upto_region 11 with fail
          generalize Tryz.zeroCells139 = Z at hE hzs ⊢
          go_quiet (fail)
          go_wp2_with fail
          go_ret
          exact ⟨⟨false, rfl, fun h => (by cases h), fun h => absurd h (AllEq.not hlt HE.out)⟩, by repeat first | exact HB.out | refine below_drewN ?_ _ | refine Below.alloc ?_ (by have := HB.out.size; first | omega | (simp; omega)) _⟩
        · have hg1 : g1 < w.heap.size := RamAt.lt ⟨m, pg, H.out, rfl⟩ (.inr ⟨k, hp1⟩)
          obtain ⟨ra, oa⟩ := page_row ((HB.out.block g1 hg1).trans (H.out.page k g1 hp1))
          have hga : g1 < wr.heap.size := by have := HB.out.size; omega
          have hg2 : g2 < w.heap.size := RamAt.lt ⟨m2, pg2, H2.out, rfl⟩ (.inr ⟨k, hp2⟩)
          obtain ⟨rb, ob⟩ := page_row ((HB.out.block g2 hg2).trans (H2.out.page k g2 hp2))
          have hgb : g2 < wr.heap.size := by have := HB.out.size; omega
          clear hl1 hl2 e1 f1 r0 q0 hp1 hp2
          go_wp2_with fail
          go_quiet (fail)
          go_wp2_with fail
          go_ret
          exact ⟨⟨false, rfl, fun h => (by cases h), fun h => absurd h (AllEq.not hlt HE.out)⟩, by repeat first | exact HB.out | refine below_drewN ?_ _ | refine Below.alloc ?_ (by have := HB.out.size; first | omega | (simp; omega)) _⟩
    · obtain rfl : k = n := by omega
      have e0 : wr.cell? ⟨b, 0, none⟩ = some (.int .i64 k) := blk_cell ((HB.out.block b hbl).trans H.out.at_) 0
      have f0 : wr.cell? ⟨b2, 0, none⟩ = some (.int .i64 k) := blk_cell ((HB.out.block b2 hbl2).trans H2.out.at_) 0
      go_wp2_with fail
      go_quiet (fail)
      go_wp2_with fail
      go_ret
      exact ⟨⟨true, rfl, fun _ => HALL.out, fun _ => rfl⟩, by first | exact below_drewN HB.out _ | exact HB.out⟩
end Go.Proofs.YtkogjjeoihnjpaaGreat
end
