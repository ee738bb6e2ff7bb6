/- The law SocBeats' walk. No condition. -/
import Derived.Test.YtefcdbpmpnmkjaaPack10
import Derived.Test.YtefcdbpmpnmkjaaPack6
import Derived.Laws.CopyOwn
import Derived.Deep.LoopGhost
import Derived.Deep.DeepCutAuto
import Derived.StillTailTactics
import Derived.BigRegion
import Derived.Deep.RegionWith
import Derived.Deep.RegionHeld3
import Derived.Deep.QuietTactic
import Derived.BigQuiet
import Derived.Deep.DeepFit
import Derived.Deep.DeepMust
import Derived.Handy
section
set_option linter.unusedVariables false
set_option linter.unusedSimpArgs false
namespace Go.Proofs.Ytefcdbpmpnmkjaa
open Go.RowKit
set_option maxRecDepth 100000
/-- cells copied over a row, said as what turned -/
theorem wpList_copy_turn {P : Program} {w : World} {ops : Array Oper} {rest : List Oper} {o : Oper} {a : Act} {Q : Exit → Act → World → Prop} (hgd : o.guard = none) (d s : Operand) (dT sT : TypeId)
    (ho : o.op = .call { callee := .builtin .copy, args := #[d, s], argTypes := #[dT, sT] }) (elem : TypeId) (hu : P.underlying dT = some (.slice elem)) (hsz : (P.info? elem).map (·.size) = some 1)
    (dp sp : Option Addr) (dLen dCap sLen sCap : Nat) (hd : a.eval d = .slice dp dLen dCap) (hs : a.eval s = .slice sp sLen sCap)
    (g off : Nat) (cur : List Value) (t : TypeId) (hg : w.heap[g]? = some (.cells cur.toArray t (0, 0))) (cs : List Value) (hn : cs.length = Nat.min sLen dLen)
    (hpos : 0 < cs.length → dp = some ⟨g, off, none⟩ ∧ ∃ ad, sp = some ad ∧ ∀ j v, cs[j]? = some v → w.cell? (ad.add j) = some v)
    (hfit : off + cs.length ≤ cur.length) (h1 : ∀ v ∈ cs, v.oneCell' = true)
    (h : ∀ w', Hid (w'.heap[g]? = some (.cells (splice cur off cs).toArray t (0, 0))) → Hid (Turned (· = g) w w') → wpList P ops Q rest (a.put o.dst (goInt cs.length)) w') :
    wpList P ops Q (o :: rest) a w := by
  by_cases h0 : cs.length = 0
  · obtain rfl : cs = [] := List.eq_nil_of_length_eq_zero h0
    refine wpList_copy_nothing hgd d s dT sT ho elem hu hsz dp sp dLen dCap sLen sCap hd hs (by simpa using hn.symm) ?_
    exact h w (show _ = _ by simpa [splice] using hg) (show Turned _ _ _ from .refl _ _)
  · obtain ⟨rfl, ad, rfl, hsrc⟩ := hpos (by omega)
    refine wpList_copy_own hgd d s dT sT ho elem hu hsz g off dLen dCap ad sLen sCap hd hs cur.toArray t hg cs hn hsrc (by simpa using hfit) h1 ?_
    exact h _ (show _ = _ by simpa [splice] using setRow_heap w g _ _ t _ hg) (show Turned _ _ _ from ⟨rfl, rfl, rfl, by simp [World.setRow], fun q hq hn => setRow_other w g q _ hn⟩)
theorem splice_rows (z0 : Value) (n m : Nat) (hm : m ≤ n) (f : Nat → Value) : splice (List.replicate n z0) 0 ((List.range m).map f) = (List.range n).map (fun i => if i < m then f i else z0) := by
  apply List.ext_getElem?
  intro i
  unfold splice
  by_cases h1 : i < m
  · rw [List.take_zero, List.nil_append, List.getElem?_append_left (by simpa using h1)]
    simp [h1, show i < n by omega]
  · rw [List.take_zero, List.nil_append, List.getElem?_append_right (by simpa using h1)]
    by_cases h2 : i < n
    · simp only [List.length_map, List.length_range, Nat.zero_add, List.drop_replicate, List.getElem?_replicate, List.getElem?_map, List.getElem?_range h2, Option.map_some, if_neg h1]
      rw [if_pos (by omega)]
    · rw [List.getElem?_eq_none (by simp; omega), List.getElem?_eq_none (by simp; omega)]
def beD (m : Nat) (V : Nat → Int) (i : Nat) : Int := if i < Nat.min m 64 then V i else 0
def beM (m : Nat) (z : Nat → Bool) (i : Nat) : Bool := if i < Nat.min m 64 then z i else false
theorem isB_block {w : World} {g n : Nat} {V : Nat → Int} {T : TypeId} (h : w.heap[g]? = some (.cells ((List.range n).map (fun i => Value.int .u8 (V i))).toArray T (0, 0))) (hb : ∀ i, 0 ≤ V i ∧ V i ≤ 255) : IsB w (some ⟨g, 0, none⟩) n (listOf V n) := by
  refine ⟨listOf_len _ _, fun x hx => ?_, .inr ⟨g, 0, rfl, fun i hi => ?_⟩⟩
  · simp only [listOf, List.mem_map] at hx
    obtain ⟨i, _, rfl⟩ := hx
    exact hb i
  · show w.cell? ⟨g, 0 + i, none⟩ = _
    rw [Nat.zero_add, blk_cell h, listOf_getD _ _ _ hi]
    simp [hi]
theorem isRow_block {w : World} {g n : Nat} {V : Nat → Value} {T : TypeId} (h : w.heap[g]? = some (.cells ((List.range n).map V).toArray T (0, 0))) : IsRow w (some ⟨g, 0, none⟩) n V := fun _ => ⟨g, 0, rfl, blk_lt h, fun i hi => by rw [Nat.zero_add, blk_cell h]; simp [hi]⟩
theorem pma_ram (x : Nat) (h : 2147483648 ≤ x) (h2 : x < 2147500032) : pmaFind 4 x = (5, 2147483648, 16384, (x : Int) - 2147483648) := by
  unfold pmaFind
  rw [if_neg (by omega), if_neg (by omega), if_neg (by omega), if_neg (by omega), if_pos (by omega)]
  rfl
theorem bt_ok (x : Nat) (h : 2147483648 ≤ x) (h2 : x < 2147500032) : socErr 4 x 1 1 = 0 ∧ (pmaFind 4 x).1 = 5 := by
  have e := pma_ram x h h2
  refine ⟨?_, by rw [e]⟩
  have hm : pmaMay 4 x 1 1 = true := by
    unfold pmaMay
    rw [e]
    simp
    rw [show IntKind.u64.wrap 16383 = 16383 from rfl]
    omega
  unfold socErr
  rw [hm]
  simp [sz1248]
theorem bt_far (x : Nat) (h : 2147500032 ≤ x) : socErr 4 x 1 1 = 6 := by
  have e : (pmaFind 4 x).1 = 0 := by
    unfold pmaFind
    rw [if_neg (by omega), if_neg (by omega), if_neg (by omega), if_neg (by omega), if_neg (by omega)]
  have hm : pmaMay 4 x 1 1 = false := by
    unfold pmaMay
    rw [e]
    rfl
  unfold socErr
  rw [hm]
  simp [sz1248]
theorem mayErr_one (x : Nat) (h : 2147483648 ≤ x) (h2 : x < 2147500032) : mayErr 4 x 1 = 0 := by
  unfold mayErr ramAll isRam
  simp
  omega
theorem wordV_one (ct : Nat → Nat) (x O : Nat) (hO : x = 2147483648 + O) (h2 : O < 16384) : wordV 4 ct x 1 = ct O := by
  unfold wordV
  rw [if_pos (mayErr_one x (by omega) (by omega))]
  have : ((x : Int) - 2147483648).toNat = O := by omega
  rw [this]
  simp [wordAt, wordN]
theorem be_all (x : Nat) (h : 2147483648 ≤ x) (h2 : x + 64 ≤ 2147500032) : ramAll 4 x 64 = true := by
  unfold ramAll isRam
  simp
  omega
theorem be_all_far : ramAll 4 (2147500000 : Nat) 64 = false := by decide +kernel
/-- what memory holds then -/
def beC (O : Nat) (D : Nat → Int) (M : Nat → Bool) : Nat → Nat := putTo (fun _ => 0) O (fun i => (D i).toNat) (stAt 64 M) 64
theorem beC_at (O : Nat) (D : Nat → Int) (M : Nat → Bool) (k : Nat) (hk : k < 64) : beC O D M (O + k) = if M k then (D k).toNat else 0 := by
  unfold beC
  rw [putTo_at, Nat.add_sub_cancel_left]
  unfold stAt
  by_cases hM : M k = true
  · rw [if_pos ⟨by omega, by omega, by simp [hk, hM]⟩, if_pos hM]
  · rw [if_neg (by simp [hk, hM]), if_neg hM]
theorem be_someC (x O : Nat) (hO : x = 2147483648 + O) (h2 : O + 64 ≤ 16384) (D : Nat → Int) (M : Nat → Bool) : someC 4 (fun _ => 0) x D (stAt 64 M) 64 = beC O D M := by
  have : ((x : Int) - 2147483648).toNat = O := by omega
  unfold someC beC
  rw [show ((64 : Nat) : Int) = 64 from rfl, be_all x (by omega) (by omega), if_pos rfl, this]
theorem be_readL (ct : Nat → Nat) (x O : Nat) (hO : x = 2147483648 + O) (h2 : O + 64 ≤ 16384) : readE 4 x 64 = 0 ∧ readL 4 ct x 64 = (List.range 64).map (fun k => (ct (O + k) : Int)) := by
  have e : readE 4 x 64 = 0 := by unfold readE; rw [be_all x (by omega) (by omega)]; simp
  have e2 : ((x : Int) - 2147483648).toNat = O := by omega
  refine ⟨e, ?_⟩
  unfold readL bytesAt
  rw [if_pos e, e2]
  rfl
theorem SocAt.turned {w w' : World} {β : SocB} {σ : SocS} {S T : Nat → Prop} (h : SocAt w β σ S) (ht : Turned T w w') (hr : ¬ T β.r) (hT : ∀ g, S g → ¬ T g) : SocAt w' β σ S := by
  obtain ⟨lg, sn, SR, h, rfl⟩ := h
  exact ⟨lg, sn, SR, h.turned ht hr hT, rfl⟩
def BrIs (w : World) (er : Bool) (l : List Int) (e : Ending) (w' : World) : Prop := ∃ g c, e = .returned (.agg #[.int .i64 0, .int .i64 0, .slice (some ⟨g, 0, none⟩) 64 c, .bool er]) ∧ w.heap.size ≤ g ∧ (∀ k, k < 64 → w'.cell? ⟨g, k, none⟩ = some (.int .u8 (l.getD k 0))) ∧ g < w'.heap.size ∧ Below w.heap.size w w'
theorem brIs {w w' : World} {er : Bool} {l : List Int} {e : Ending} {A : AskS} (h : SrvIs w A er l e w') (hp : A.port = 0) (hi : A.id = 0) (hl : l.length = 64) : BrIs w er l e w' := by
  obtain ⟨a, c, rfl, ho, hb⟩ := h
  rw [hl] at ho
  obtain ⟨h1, ⟨_, h0⟩ | ⟨g, cap, cur, k1, k2, k3, k4, k5, k6, k7⟩⟩ := ho
  · omega
  · cases k1
    refine ⟨g, _, by rw [hp, hi, hl], k2, fun k hk => ?_, blk_lt k3, hb⟩
    have : (cur.toList.take (64 * 1))[k]? = some (.int .u8 (l.getD k 0)) := by rw [k7]; simp [List.getD, show k < l.length by omega]
    rw [blk_cell k3, ← this, List.getElem?_take_of_lt (by omega), Array.getElem?_toList]
def SBK (w wp : World) (β : SocB) (σ : SocS) (P : Nat → Prop) (wr : World) : Prop := ∃ S, SocAt wr β σ S ∧ (∀ g, S g → w.heap.size ≤ g) ∧ Below w.heap.size w wr ∧ (∀ g, P g → ¬ S g) ∧ (∀ g, P g → g < wp.heap.size) ∧ wp.heap.size ≤ wr.heap.size ∧ (∀ g, P g → wr.heap[g]? = wp.heap[g]?)
theorem sbk_next {w wp wr w' : World} {β : SocB} {σ' : SocS} {P S : Nat → Prop} (h1 : SocTo wr w' β σ' S) (h2 : ∀ g, S g → w.heap.size ≤ g) (h3 : Below w.heap.size w wr) (h4 : ∀ g, P g → ¬ S g) (h5 : ∀ g, P g → g < wp.heap.size) (h6 : wp.heap.size ≤ wr.heap.size) (h7 : ∀ g, P g → wr.heap[g]? = wp.heap[g]?) : SBK w wp β σ' P w' := by
  obtain ⟨S', k1, k2, k3⟩ := h1
  refine ⟨S', k1, fun g hg => (k3 g hg).elim (h2 g) (fun e => Nat.le_trans h3.size e), turned_below h3 k2 h2 h3.size, fun g hg hs => ?_, h5, Nat.le_trans h6 k2.size, fun g hg => ?_⟩
  · rcases k3 g hs with e | e
    · exact h4 g hg e
    · have := h5 g hg; omega
  · exact (k2.block g (by have := h5 g hg; omega) (h4 g hg)).trans (h7 g hg)
theorem SBK.read {w wp wr : World} {β : SocB} {σ : SocS} {P : Nat → Prop} (h : SBK w wp β σ P wr) (hn : σ.n = 4) (x O : Nat) (hO : x = 2147483648 + O) (h2 : O < 16384) :
    Calls Try.prog 12 #[.pointer (some ⟨β.s, 0, none⟩), .int .u64 x, .int .i64 1] wr fun e w' => e = .returned (.tuple #[.int .u64 (σ.ct O : Nat), .int .i64 0]) ∧ SBK w wp β σ P w' := by
  obtain ⟨S, ⟨lg, sn, SR, I, rfl⟩, k2, k3, k4, k5, k6, k7⟩ := h
  have hok := bt_ok x (by omega) (by omega)
  refine (soc_read5 I x (by omega) 1 (by rw [hn]; exact hok.1) (by rw [hn]; exact hok.2)).mono ?_
  rintro e w' ⟨rfl, hto⟩
  refine ⟨?_, sbk_next hto k2 k3 k4 k5 k6 k7⟩
  show Ending.returned (.tuple #[.int .u64 ((wordV σ.n σ.ct x 1 : Nat) : Int), .int .i64 (mayErr σ.n x 1)]) = _
  rw [hn, wordV_one σ.ct x O hO h2, mayErr_one x (by omega) (by omega)]
theorem SBK.read_far {w wp wr : World} {β : SocB} {σ : SocS} {P : Nat → Prop} (h : SBK w wp β σ P wr) (hn : σ.n = 4) (x : Nat) (hx : 2147500032 ≤ x) (hx2 : x < 2147600000) :
    Calls Try.prog 12 #[.pointer (some ⟨β.s, 0, none⟩), .int .u64 x, .int .i64 1] wr fun e w' => e = .returned (.tuple #[.int .u64 0, .int .i64 6]) ∧ SBK w wp β σ P w' := by
  obtain ⟨S, ⟨lg, sn, SR, I, rfl⟩, k2, k3, k4, k5, k6, k7⟩ := h
  have hf := bt_far x hx
  have hr := soc_read_err I x (by omega) 1 (by rw [hn, hf]; decide)
  rw [hn, hf] at hr
  refine hr.mono ?_
  rintro e w' ⟨rfl, hto⟩
  exact ⟨rfl, sbk_next hto k2 k3 k4 k5 k6 k7⟩
theorem beats_r {w : World} {β : SocB} {σ : SocS} {S : Nat → Prop} (h : SocAt w β σ S) (hn : σ.n = 4) (x O : Nat) (hO : x = 2147483648 + O) (h2 : O + 64 ≤ 16384) :
    Calls Try.prog 13 #[.pointer (some ⟨β.s, 0, none⟩), .agg #[.int .i64 0, .int .i64 0, .int .i64 1, .int .u64 x, .int .i64 8, .slice none 0 0, .slice none 0 0, .int .i64 0]] w (BrIs w false ((List.range 64).map (fun k => (σ.ct (O + k) : Int)))) := by
  obtain ⟨lg, sn, SR, I, rfl⟩ := h
  have hr := soc_serve_r I ⟨0, 0, 1, x, 8, none, 0, 0, none, 0, 0, 0⟩ (by show x < _; omega) (by rw [hn]; show (pmaFind 4 x).1 ≠ 1; rw [pma_ram x (by omega) (by omega)]; exact fun e => by cases e) rfl rfl (show (8 : Nat) ≤ 8 by decide)
  have e := be_readL σ.ct x O hO h2
  simp only [hn, show 8 * ((8 : Nat) : Int) = 64 from rfl, e.1, e.2, if_true] at hr
  exact hr.mono fun e w' k => brIs k rfl rfl (by simp)
theorem readE_far : readE 4 (2147500000 : Nat) 64 = 6 := by unfold readE; rw [be_all_far]; decide
theorem beats_r_far {w : World} {β : SocB} {σ : SocS} {S : Nat → Prop} (h : SocAt w β σ S) (hn : σ.n = 4) :
    Calls Try.prog 13 #[.pointer (some ⟨β.s, 0, none⟩), .agg #[.int .i64 0, .int .i64 0, .int .i64 1, .int .u64 2147500000, .int .i64 8, .slice none 0 0, .slice none 0 0, .int .i64 0]] w (BrIs w true (List.replicate 64 0)) := by
  obtain ⟨lg, sn, SR, I, rfl⟩ := h
  have hr := soc_serve_r I ⟨0, 0, 1, 2147500000, 8, none, 0, 0, none, 0, 0, 0⟩ (by show 2147500000 < _; decide) (by rw [hn]; show (pmaFind 4 (2147500000 : Nat)).1 ≠ 1; rw [pma_ram 2147500000 (by decide) (by decide)]; decide) rfl rfl (by decide)
  simp only [hn, show 8 * ((8 : Nat) : Int) = 64 from rfl, readE_far] at hr
  rw [if_neg (by decide)] at hr
  exact hr.mono fun e w' k => brIs k rfl rfl (by simp)
theorem beats_w {w : World} {β : SocB} {S : Nat → Prop} (h : SocAt w β (soc0 4 (fun _ => 0)) S) (x O : Nat) (hO : x = 2147483648 + O) (h2 : O + 64 ≤ 16384) (gd gm : Nat) (hgd : ¬ S gd) (hgm : ¬ S gm) (D : Nat → Int) (M : Nat → Bool) (hd : IsB w (some ⟨gd, 0, none⟩) 64 (listOf D 64)) (hm : IsRow w (some ⟨gm, 0, none⟩) 64 (fun i => .bool (M i))) :
    Calls Try.prog 13 #[.pointer (some ⟨β.s, 0, none⟩), .agg #[.int .i64 0, .int .i64 0, .int .i64 2, .int .u64 x, .int .i64 8, .slice (some ⟨gd, 0, none⟩) 64 64, .slice (some ⟨gm, 0, none⟩) 64 64, .int .i64 0]] w fun e w' => e = .returned (.agg #[.int .i64 0, .int .i64 0, .slice none 0 0, .bool false]) ∧ SocTo w w' β (soc0 4 (beC O D M)) S := by
  obtain ⟨lg, sn, SR, I, rfl⟩ := h
  have hr := soc_serve_w I ⟨0, 0, 2, x, 8, some ⟨gd, 0, none⟩, 64, 64, some ⟨gm, 0, none⟩, 64, 64, 0⟩ (by show x < _; omega) rfl rfl (show (8 : Nat) ≤ 8 by decide) D (show (64 : Nat) ≤ 200 by decide) (show ((64 : Nat) : Int) ≤ 9223372036854775807 by decide) hd (by rintro b o s e; cases e; exact fun e => hgd (.inr (.inr (.inr (.inr (.inl e)))))) M hm (by rintro b o s e; cases e; exact fun e => hgm (.inr (.inr (.inr (.inr (.inl e))))))
  have e1 : someE (soc0 4 (fun _ => 0)).n x 64 = 0 := by show (if ramAll 4 x 64 then (0 : Int) else 6) = 0; rw [be_all x (by omega) (by omega)]; rfl
  have e2 : someC (soc0 4 (fun _ => 0)).n (soc0 4 (fun _ => 0)).ct x D (stAt 64 M) 64 = beC O D M := be_someC x O hO h2 D M
  simp only [e1, e2] at hr
  exact hr
theorem beats_w_far {w : World} {β : SocB} {S : Nat → Prop} (h : SocAt w β (soc0 4 (fun _ => 0)) S) (gd gm : Nat) (hgd : ¬ S gd) (hgm : ¬ S gm) (D : Nat → Int) (M : Nat → Bool) (hd : IsB w (some ⟨gd, 0, none⟩) 64 (listOf D 64)) (hm : IsRow w (some ⟨gm, 0, none⟩) 64 (fun i => .bool (M i))) :
    Calls Try.prog 13 #[.pointer (some ⟨β.s, 0, none⟩), .agg #[.int .i64 0, .int .i64 0, .int .i64 2, .int .u64 2147500000, .int .i64 8, .slice (some ⟨gd, 0, none⟩) 64 64, .slice (some ⟨gm, 0, none⟩) 64 64, .int .i64 0]] w fun e w' => e = .returned (.agg #[.int .i64 0, .int .i64 0, .slice none 0 0, .bool true]) ∧ SocTo w w' β (soc0 4 (fun _ => 0)) S := by
  obtain ⟨lg, sn, SR, I, rfl⟩ := h
  have hr := soc_serve_w I ⟨0, 0, 2, 2147500000, 8, some ⟨gd, 0, none⟩, 64, 64, some ⟨gm, 0, none⟩, 64, 64, 0⟩ (by show 2147500000 < _; decide) rfl rfl (show (8 : Nat) ≤ 8 by decide) D (show (64 : Nat) ≤ 200 by decide) (show ((64 : Nat) : Int) ≤ 9223372036854775807 by decide) hd (by rintro b o s e; cases e; exact fun e => hgd (.inr (.inr (.inr (.inr (.inl e)))))) M hm (by rintro b o s e; cases e; exact fun e => hgm (.inr (.inr (.inr (.inr (.inl e))))))
  have e1 : someE (soc0 4 (fun _ => 0)).n (2147500000 : Nat) 64 = 6 := by show (if ramAll 4 (2147500000 : Nat) 64 then (0 : Int) else 6) = 6; rw [be_all_far]; rfl
  have e2 : someC (soc0 4 (fun _ => 0)).n (soc0 4 (fun _ => 0)).ct (2147500000 : Nat) D (stAt 64 M) 64 = fun _ => 0 := by show (if ramAll 4 (2147500000 : Nat) (64 : Nat) then _ else _) = _; rw [show ((64 : Nat) : Int) = 64 from rfl, be_all_far]; rfl
  simp only [e1, e2] at hr
  exact hr
/-- two rows of the call's own -/
def TwoNew (w : World) (s12 s13 : Value) (wx : World) : Prop := ∃ gd gm, s12 = .slice (some ⟨gd, 0, none⟩) 64 64 ∧ s13 = .slice (some ⟨gm, 0, none⟩) 64 64 ∧ gd ≠ gm ∧ w.heap.size ≤ gd ∧ w.heap.size ≤ gm ∧ gd < wx.heap.size ∧ gm < wx.heap.size ∧ wx.heap[gd]? = some (.cells (List.replicate 64 (Value.int .u8 0)).toArray 5 (0, 0)) ∧ wx.heap[gm]? = some (.cells (List.replicate 64 (Value.bool false)).toArray 4 (0, 0)) ∧ Below w.heap.size w wx
theorem TwoNew.drew {w : World} {a b : Value} {wx : World} (h : TwoNew w a b wx) : TwoNew w a b wx.drew := by
  obtain ⟨gd, gm, e1, e2, hne, hgd, hgm, ld, lm, hd, hm, hbw⟩ := h
  exact ⟨gd, gm, e1, e2, hne, hgd, hgm, ld, lm, hd, hm, hbw.drew⟩
theorem made64 : madeCells #[Value.int .u8 0] 64 = (List.replicate 64 (Value.int .u8 0)).toArray := by kernel_rfl
theorem made64b : madeCells #[Value.bool false] 64 = (List.replicate 64 (Value.bool false)).toArray := by kernel_rfl
theorem two_new1 (w : World) : TwoNew w (.slice (some ⟨w.heap.size, 0, none⟩) 64 64) (.slice (some ⟨w.heap.size + 1, 0, none⟩) 64 64) ((w.alloc (.cells (List.replicate 64 (Value.int .u8 0)).toArray 5)).alloc (.cells (List.replicate 64 (Value.bool false)).toArray 4)) := by
  have b1 := (Below.refl w.heap.size w).alloc (Nat.le_refl _) (.cells (List.replicate 64 (Value.int .u8 0)).toArray 5)
  have h2 := blk_alloc (w.alloc (.cells (List.replicate 64 (Value.int .u8 0)).toArray 5)) (.cells (List.replicate 64 (Value.bool false)).toArray 4)
  refine ⟨_, _, rfl, rfl, by omega, Nat.le_refl _, by omega, by simp; omega, by simp, ?_, by simpa using h2, b1.alloc (by simp) _⟩
  exact (blk_alloc_old _ _ _ (by simp)).trans (blk_alloc _ _)
theorem two_new2 (w : World) : TwoNew w (.slice (some ⟨w.heap.size + 1, 0, none⟩) 64 64) (.slice (some ⟨w.heap.size, 0, none⟩) 64 64) ((w.alloc (.cells (List.replicate 64 (Value.bool false)).toArray 4)).alloc (.cells (List.replicate 64 (Value.int .u8 0)).toArray 5)) := by
  have b1 := (Below.refl w.heap.size w).alloc (Nat.le_refl _) (.cells (List.replicate 64 (Value.bool false)).toArray 4)
  have h2 := blk_alloc (w.alloc (.cells (List.replicate 64 (Value.bool false)).toArray 4)) (.cells (List.replicate 64 (Value.int .u8 0)).toArray 5)
  refine ⟨_, _, rfl, rfl, by omega, by omega, Nat.le_refl _, by simp, by simp; omega, by simpa using h2, ?_, b1.alloc (by simp) _⟩
  exact (blk_alloc_old _ _ _ (by simp)).trans (blk_alloc _ _)
set_option maxHeartbeats 8000000 in
theorem beats_near (line : Int) (X : Nat) (hX1 : (X : Int) < 250) (em : (IntKind.u64.wrap line).tmod 250 = (X : Int)) {w : World} (a1 a2 : Option Addr) (m1 c1 m2 c2 : Nat) (V : Nat → Int) (z : Nat → Bool) (h1 : IsRow w a1 m1 (fun i => .int .u8 (V i))) (h2 : IsRow w a2 m2 (fun i => .bool (z i))) (hv : ∀ i, 0 ≤ V i ∧ V i ≤ 255) :
    Calls Try.prog 4 #[.int .i64 line, .slice a1 m1 c1, .slice a2 m2 c2, .bool false] w fun e w' => e = .returned (.bool true) ∧ Below w.heap.size w w' := by
  have R1 := Lib.hid h1
  have R2 := Lib.hid h2
  have HVB := Lib.hid hv
  clear h1 h2 hv
  obtain ⟨x, hx⟩ : ∃ x : Nat, x = 2147483648 + X * 64 := ⟨_, rfl⟩
  have HX : Hid ((2147483648 : Int) + (X : Int) * 64 = (x : Int)) := by show _ = _; omega
  have HXE : Hid (x = 2147483648 + X * 64) := hx
  clear hx
  have hmk : ∀ wq, (Instr.makeSlice 37 (.int .i64 64) (.int .i64 64)).run Try.prog wq = .ok (.slice (some ⟨wq.heap.size, 0, none⟩) 64 64) (wq.alloc (.cells (List.replicate 64 (Value.int .u8 0)).toArray 5)) := fun wq => by
    have := run_make_row' (P := Try.prog) 37 5 (.int .u8 0) 1 Try.underlying37 A_info5 rfl .i64 .i64 64 (by omega) (by omega) wq
    rw [made64] at this
    exact this
  have hmb : ∀ wq, (Instr.makeSlice 38 (.int .i64 64) (.int .i64 64)).run Try.prog wq = .ok (.slice (some ⟨wq.heap.size, 0, none⟩) 64 64) (wq.alloc (.cells (List.replicate 64 (Value.bool false)).toArray 4)) := fun wq => by
    have := run_make_row' (P := Try.prog) 38 4 (.bool false) 1 Try.underlying38 A_info4 rfl .i64 .i64 64 (by omega) (by omega) wq
    rw [made64b] at this
    exact this
  go_enter Try.func4, Try.ntmps4
  go_wp2_with fail
  refine (shere_new 4 (by decide) (by decide) w).mono ?_
  rintro e w1 ⟨β, rfl, h1⟩
  have H1 := Lib.hid h1
  clear h1
  go_wp2_with fail
  refine (awake_ok _).mono ?_
  rintro e w2 ⟨rfl, hb⟩
  have H2 := Lib.hid (H1.out.below hb)
  clear hb H1
  go_upto_region 7 with fail
  go_cut [12, 13] (fun s12 s13 wx => TwoNew w2 s12 s13 wx)
  case first =>
    clear R1 R2 H2
    have t1 := Lib.hid (two_new1 w2)
    have t2 := Lib.hid (two_new2 w2)
    go_region
    all_goals (go_wp2_with fail; go_meet; first | exact t1.out.drew | exact t2.out.drew)
  case rest =>
    obtain ⟨gd, gm, rfl, rfl, hne, hgd, hgm, ld, lm, hd, hm, hbw⟩ := hcut
    have HNE := Lib.hid hne
    have HGD := Lib.hid hgd
    have HGM := Lib.hid hgm
    have HD := Lib.hid hd
    have HM := Lib.hid hm
    have HBC := Lib.hid (below_then H2.out.keeps hbw H2.out.keeps.size)
    obtain ⟨S, hat, hS, hBW⟩ := H2.out
    have HAT := Lib.hid (hat.below hbw)
    have HSL : Hid (∀ g, S g → g < w2.heap.size) := fun g hg => hat.lt hg
    have HSG := Lib.hid hS
    have HRL : Hid (β.r < w2.heap.size) := by obtain ⟨SR, hr⟩ := hat.ram; obtain ⟨C, hC⟩ := ram_at hr; exact blk_lt hC
    have HWW : Hid (w.heap.size ≤ w2.heap.size) := hBW.size
    have HCC : Hid (w.heap.size ≤ wc.heap.size) := Nat.le_trans hBW.size hbw.size
    clear hne hgd hgm hd hm hbw hat hS hBW H2 ld lm
    obtain ⟨cs1, hcs1⟩ : ∃ c, c = (List.range (Nat.min m1 64)).map (fun i => Value.int .u8 (V i)) := ⟨_, rfl⟩
    obtain ⟨cs2, hcs2⟩ : ∃ c, c = (List.range (Nat.min m2 64)).map (fun i => Value.bool (z i)) := ⟨_, rfl⟩
    have HN1 : Hid (cs1.length = Nat.min m1 64) := by rw [hcs1]; show List.length _ = _; simp
    have HN2 : Hid (cs2.length = Nat.min m2 64) := by rw [hcs2]; show List.length _ = _; simp
    have HM1 : Hid (Nat.min m1 64 ≤ 64) := Nat.min_le_right _ _
    have HM2 : Hid (Nat.min m2 64 ≤ 64) := Nat.min_le_right _ _
    have HP1 : Hid (∀ W, Below w.heap.size w W → 0 < cs1.length → (some ⟨gd, 0, none⟩ : Option Addr) = some ⟨gd, 0, none⟩ ∧ ∃ ad, a1 = some ad ∧ ∀ j v, cs1[j]? = some v → W.cell? (ad.add j) = some v) := fun W hb h0 => by
      have hl := HN1.out
      have hle : Nat.min m1 64 ≤ m1 := Nat.min_le_left _ _
      obtain ⟨b, o, e, lt, hc⟩ := R1.out (by omega)
      refine ⟨rfl, _, e, fun j v hv => ?_⟩
      have hj : j < Nat.min m1 64 := by have := (List.getElem?_eq_some_iff.1 hv).1; omega
      rw [hcs1, List.getElem?_map, List.getElem?_range hj] at hv
      cases hv
      rw [addr_add]
      exact (hb.cell (p := ⟨b, o + j, none⟩) lt).trans (hc j (by omega))
    have HP2 : Hid (∀ W, Below w.heap.size w W → 0 < cs2.length → (some ⟨gm, 0, none⟩ : Option Addr) = some ⟨gm, 0, none⟩ ∧ ∃ ad, a2 = some ad ∧ ∀ j v, cs2[j]? = some v → W.cell? (ad.add j) = some v) := fun W hb h0 => by
      have hl := HN2.out
      have hle : Nat.min m2 64 ≤ m2 := Nat.min_le_left _ _
      obtain ⟨b, o, e, lt, hc⟩ := R2.out (by omega)
      refine ⟨rfl, _, e, fun j v hv => ?_⟩
      have hj : j < Nat.min m2 64 := by have := (List.getElem?_eq_some_iff.1 hv).1; omega
      rw [hcs2, List.getElem?_map, List.getElem?_range hj] at hv
      cases hv
      rw [addr_add]
      exact (hb.cell (p := ⟨b, o + j, none⟩) lt).trans (hc j (by omega))
    have HF1 : Hid (0 + cs1.length ≤ (List.replicate 64 (Value.int .u8 0)).length) := by have := HN1.out; have := HM1.out; show _ ≤ _; rw [List.length_replicate]; omega
    have HF2 : Hid (0 + cs2.length ≤ (List.replicate 64 (Value.bool false)).length) := by have := HN2.out; have := HM2.out; show _ ≤ _; rw [List.length_replicate]; omega
    have HO1 : Hid (∀ v ∈ cs1, v.oneCell' = true) := fun v hv => by rw [hcs1] at hv; simp only [List.mem_map] at hv; obtain ⟨_, _, rfl⟩ := hv; rfl
    have HO2 : Hid (∀ v ∈ cs2, v.oneCell' = true) := fun v hv => by rw [hcs2] at hv; simp only [List.mem_map] at hv; obtain ⟨_, _, rfl⟩ := hv; rfl
    have HR1 : Hid (splice (List.replicate 64 (Value.int .u8 0)) 0 cs1 = (List.range 64).map fun i => Value.int .u8 (beD m1 V i)) := by
      rw [hcs1]
      refine (splice_rows _ 64 _ HM1.out _).trans (List.map_congr_left fun i _ => ?_)
      unfold beD
      split <;> rfl
    have HR2 : Hid (splice (List.replicate 64 (Value.bool false)) 0 cs2 = (List.range 64).map fun i => Value.bool (beM m2 z i)) := by
      rw [hcs2]
      refine (splice_rows _ 64 _ HM2.out _).trans (List.map_congr_left fun i _ => ?_)
      unfold beM
      split <;> rfl
    clear hcs1 hcs2 R1 R2
    go_upto_region 9 with ((with_reducible refine wpList_copy_turn rfl (.tmp 42) (.tmp 43) 37 37 rfl 5 Try.underlying37 (by kernel_rfl) (some ⟨gd, 0, none⟩) a1 64 64 m1 c1 rfl rfl gd 0 (List.replicate 64 (Value.int .u8 0)) 5 HD.out cs1 HN1.out (HP1.out _ HBC.out) HF1.out HO1.out ?_); intro w4 hr4 ht4)
    have HB4 : Hid (Below w.heap.size w w4) := turned_below HBC.out ht4.out (fun g e => by have := HGD.out; have := HWW.out; omega) HCC.out
    have HS4 : Hid (wc.heap.size ≤ w4.heap.size) := ht4.out.size
    have HM4 : Hid (w4.heap[gm]? = some (.cells (List.replicate 64 (Value.bool false)).toArray 4 (0, 0))) := ht4.out.keep (fun e => HNE.out e.symm) HM.out
    have HA4 : Hid (SocAt w4 β (soc0 4 (fun _ => 0)) S) := HAT.out.turned ht4.out (fun e => by have := HRL.out; have := HGD.out; omega) (fun g hg e => by have := HSL.out g hg; have := HGD.out; omega)
    go_upto_region 10 with ((with_reducible refine wpList_copy_turn rfl (.tmp 45) (.tmp 46) 38 38 rfl 4 Try.underlying38 (by kernel_rfl) (some ⟨gm, 0, none⟩) a2 64 64 m2 c2 rfl rfl gm 0 (List.replicate 64 (Value.bool false)) 4 HM4.out cs2 HN2.out (HP2.out _ HB4.out) HF2.out HO2.out ?_); intro w5 hr5 ht5)
    rw [HR1.out] at hr4
    rw [HR2.out] at hr5
    have HB5 : Hid (Below w.heap.size w w5) := turned_below HB4.out ht5.out (fun g e => by have := HGM.out; have := HWW.out; omega) (Nat.le_trans HCC.out HS4.out)
    have HD5 : Hid (w5.heap[gd]? = some (.cells ((List.range 64).map fun i => Value.int .u8 (beD m1 V i)).toArray 5 (0, 0))) := ht5.out.keep HNE.out hr4.out
    have HM5 : Hid (w5.heap[gm]? = some (.cells ((List.range 64).map fun i => Value.bool (beM m2 z i)).toArray 4 (0, 0))) := hr5.out
    have HA5 : Hid (SocAt w5 β (soc0 4 (fun _ => 0)) S) := HA4.out.turned ht5.out (fun e => by have := HRL.out; have := HGM.out; omega) (fun g hg e => by have := HSL.out g hg; have := HGM.out; omega)
    have HDB : Hid (∀ i, 0 ≤ beD m1 V i ∧ beD m1 V i ≤ 255) := fun i => by unfold beD; split; exact HVB.out i; exact ⟨by omega, by omega⟩
    generalize beD m1 V = D at *
    generalize beM m2 z = M at *
    clear hr4 ht4 hr5 ht5 HB4 HS4 HM4 HA4 HR1 HR2 HN1 HN2 HP1 HP2 HF1 HF2 HO1 HO2 HM1 HM2 HD HM HBC HAT HVB
    go_wp2_with fail
    rw [HX.out]
    refine (beats_w HA5.out x (X * 64) HXE.out (by omega) gd gm (fun e => by have := HSL.out _ e; have := HGD.out; omega) (fun e => by have := HSL.out _ e; have := HGM.out; omega) D M (isB_block HD5.out HDB.out) (isRow_block HM5.out)).mono ?_
    rintro e w6 ⟨rfl, hto⟩
    obtain ⟨S6, ha6, ht6, hs6⟩ := hto
    have HA6 := Lib.hid ha6
    have HSG6 : Hid (∀ g, S6 g → w.heap.size ≤ g) := fun g hg => (hs6 g hg).elim (HSG.out g) (fun e => Nat.le_trans HB5.out.size e)
    have HB6 : Hid (Below w.heap.size w w6) := turned_below HB5.out ht6 HSG.out HB5.out.size
    have HD6 := Lib.hid (ht6.keep (fun e => by have := HSL.out _ e; have := HGD.out; omega) HD5.out)
    have HM6 := Lib.hid (ht6.keep (fun e => by have := HSL.out _ e; have := HGM.out; omega) HM5.out)
    have HND : Hid (¬ S6 gd) := fun e => by
      rcases hs6 _ e with e | e
      · have := HSL.out _ e; have := HGD.out; omega
      · have := blk_lt HD5.out; omega
    have HNM : Hid (¬ S6 gm) := fun e => by
      rcases hs6 _ e with e | e
      · have := HSL.out _ e; have := HGM.out; omega
      · have := blk_lt HM5.out; omega
    clear ha6 ht6 hs6 HD5 HM5 HA5 HB5 HSL HSG
    have HCT : Hid (∀ k, k < 64 → beC (X * 64) D M (X * 64 + k) = if M k then (D k).toNat else 0) := fun k hk => beC_at _ _ _ k hk
    generalize beC (X * 64) D M = ct at *
    go_wp2_with fail
    have hal := (Below.refl w6.heap.size w6).alloc (Nat.le_refl _) (.cells #[.int .i64 0, .int .i64 0, .slice none 0 0, .bool false] 40)
    refine (beats_r (HA6.out.below hal) rfl x (X * 64) HXE.out (by omega)).mono ?_
    rintro e w7 ⟨gx, cx, rfl, lx, hcx, ltx, hb7⟩
    have hsz : (w6.alloc (.cells #[.int .i64 0, .int .i64 0, .slice none 0 0, .bool false] 40)).heap.size = w6.heap.size + 1 := by simp
    have HCX : Hid (∀ k, k < 64 → w7.cell? ⟨gx, k, none⟩ = some (.int .u8 (ct (X * 64 + k) : Nat))) := fun k hk => by rw [hcx k hk]; simp [List.getD, hk, soc0]
    have HL6 : Hid (∀ g, S6 g → g < w6.heap.size) := fun g hg => HA6.out.lt hg
    have HA7 := Lib.hid ((HA6.out.below hal).below hb7)
    have HD7 := Lib.hid (blk_below hb7 (blk_lt (blk_below hal (blk_lt HD6.out) HD6.out)) (blk_below hal (blk_lt HD6.out) HD6.out))
    have HM7 := Lib.hid (blk_below hb7 (blk_lt (blk_below hal (blk_lt HM6.out) HM6.out)) (blk_below hal (blk_lt HM6.out) HM6.out))
    have H14 := Lib.hid (blk_below hb7 (blk_lt (blk_alloc w6 _)) (blk_alloc w6 (.cells #[.int .i64 0, .int .i64 0, .slice none 0 0, .bool false] 40)))
    have HB7 : Hid (Below w.heap.size w w7) := below_then (below_then HB6.out hal HB6.out.size) hb7 (below_then HB6.out hal HB6.out.size).size
    have HLX : Hid (w6.heap.size < gx) := by show _ < _; omega
    have HLT := Lib.hid ltx
    have HS7 : Hid (w6.heap.size < w7.heap.size) := by have := hb7.size; show _ < _; omega
    have HDL : Hid (gd < w6.heap.size) := blk_lt HD6.out
    have HML : Hid (gm < w6.heap.size) := blk_lt HM6.out
    clear hal hcx ltx hb7 HD6 HM6 HA6 HB6 lx hsz
    go_upto_region 12 with fail
    have k14 := blk_below ((Below.refl w7.heap.size w7).alloc (Nat.le_refl _) (.cells #[.int .i64 0, .int .i64 0, .slice (some ⟨gx, 0, none⟩) 64 cx, .bool false] 40)) (blk_lt H14.out) H14.out
    have k15 := blk_alloc w7 (.cells #[.int .i64 0, .int .i64 0, .slice (some ⟨gx, 0, none⟩) 64 cx, .bool false] 40)
    have hal := (Below.refl w7.heap.size w7).alloc (Nat.le_refl _) (.cells #[.int .i64 0, .int .i64 0, .slice (some ⟨gx, 0, none⟩) 64 cx, .bool false] 40)
    generalize w7.alloc (.cells #[.int .i64 0, .int .i64 0, .slice (some ⟨gx, 0, none⟩) 64 cx, .bool false] 40) = w8 at *
    have H15 := Lib.hid k15
    have HD8 := Lib.hid (blk_below hal (blk_lt HD7.out) HD7.out)
    have HM8 := Lib.hid (blk_below hal (blk_lt HM7.out) HM7.out)
    have HX8 : Hid (∀ k, k < 64 → w8.cell? ⟨gx, k, none⟩ = some (.int .u8 (ct (X * 64 + k) : Nat))) := fun k hk => (hal.cell (p := ⟨gx, k, none⟩) HLT.out).trans (HCX.out k hk)
    have HK8 : Hid (SBK w w8 β (soc0 4 ct) (fun g => g = gd ∨ g = gm ∨ g = w7.heap.size ∨ g = gx) w8) := by
      have hs := HS7.out; have hd := HDL.out; have hm := HML.out; have hx := HLX.out; have hlt := HLT.out; have h15 := blk_lt H15.out
      refine ⟨S6, HA7.out.below hal, HSG6.out, below_then HB7.out hal HB7.out.size, fun g hg hs => ?_, fun g hg => ?_, Nat.le_refl _, fun _ _ => rfl⟩
      · have hl := HL6.out g hs
        rcases hg with rfl | rfl | rfl | rfl
        · exact HND.out hs
        · exact HNM.out hs
        · omega
        · omega
      · have := hal.size
        rcases hg with rfl | rfl | rfl | rfl <;> omega
    have c142 : w8.cell? ⟨w6.heap.size, 2, none⟩ = some (.slice none 0 0) := blk_cell k14 2
    have c143 : w8.cell? ⟨w6.heap.size, 3, none⟩ = some (.bool false) := blk_cell k14 3
    have c152 : w8.cell? ⟨w7.heap.size, 2, none⟩ = some (.slice (some ⟨gx, 0, none⟩) 64 cx) := blk_cell k15 2
    have c153 : w8.cell? ⟨w7.heap.size, 3, none⟩ = some (.bool false) := blk_cell k15 3
    clear k14 k15 hal HD7 HM7 HCX HA7 HB7 HL6 HND HNM HSG6 H14
    go_wp2_with fail
    clear c142 c143 c152 c153
    go_loopw [16] (fun i wr => ∃ k : Nat, (k : Int) ≤ 64 ∧ i = .int .i64 k ∧ SBK w w8 β (soc0 4 ct) (fun g => g = gd ∨ g = gm ∨ g = w7.heap.size ∨ g = gx) wr) (fun i _ => 64 - (intOf i).toNat)
    case atStart => exact ⟨0, by omega, rfl, HK8.out⟩
    case round =>
      obtain ⟨k, hk, rfl, hs⟩ := hrel
      have HS := Lib.hid hs
      clear hs HK8
      by_cases hlt : (k : Int) < 64
      · have hk64 : k < 64 := by omega
        have hkeep : ∀ g, (g = gd ∨ g = gm ∨ g = w7.heap.size ∨ g = gx) → ∀ j, wr.cell? ⟨g, j, none⟩ = w8.cell? ⟨g, j, none⟩ := fun g hg j => by
          obtain ⟨_, _, _, _, _, _, _, q⟩ := HS.out
          have := q g hg
          unfold World.cell?
          simp only [this]
        have cm : wr.cell? ⟨gm, k, none⟩ = some (.bool (M k)) := by rw [hkeep gm (.inr (.inl rfl)), blk_cell HM8.out]; simp [hk64]
        have cd : wr.cell? ⟨gd, k, none⟩ = some (.int .u8 (D k)) := by rw [hkeep gd (.inl rfl), blk_cell HD8.out]; simp [hk64]
        have cx2 : wr.cell? ⟨w7.heap.size, 2, none⟩ = some (.slice (some ⟨gx, 0, none⟩) 64 cx) := by rw [hkeep _ (.inr (.inr (.inl rfl)))]; exact blk_cell H15.out 2
        have cxk : wr.cell? ⟨gx, k, none⟩ = some (.int .u8 (ct (X * 64 + k) : Nat)) := by rw [hkeep gx (.inr (.inr (.inr rfl)))]; exact HX8.out k hk64
        clear hkeep hk
        have hct := HCT.out k hk64
        have hdb := HDB.out k
        obtain ⟨d, hd⟩ : ∃ d : Nat, D k = (d : Int) := ⟨(D k).toNat, by omega⟩
        have HD255 : (d : Int) ≤ 255 := by omega
        rw [hd] at cd
        rw [hd, Int.toNat_natCast] at hct
        clear hdb hd
        generalize hmk : M k = m at *
        clear hmk
        have hrd := Lib.hid (HS.out.read rfl (x + k) (X * 64 + k) (by have := HXE.out; omega) (by omega))
        have hct2 : (soc0 4 ct).ct (X * 64 + k) = if m = true then d else 0 := hct
        rw [hct2] at hrd
        rw [hct] at cxk
        rw [show ((x + k : Nat) : Int) = (x : Int) + k by omega] at hrd
        have hw : IntKind.u64.wrap ((x : Int) + k) = x + k := by have := HXE.out; rw [IntKind.wrap_u64]; omega
        clear hct hct2 hk64
        cases m
        all_goals
          simp only [if_true, if_false, Bool.false_eq_true] at cxk hrd
          go_wp2_with fail
          refine hrd.out.mono ?_
          rintro e w9 ⟨rfl, hs9⟩
          have HS9 := Lib.hid hs9
          clear hs9 HS
          go_wp2
          go_roundw
          case rel => exact ⟨k + 1, by omega, by go_num, HS9.out⟩
          case measure => simp [intOf]; omega
      · obtain rfl : k = 64 := by omega
        go_wp2
        go_ret
        exact ⟨rfl, by obtain ⟨_, _, _, q, _⟩ := HS.out; exact q⟩
set_option maxHeartbeats 8000000 in
theorem beats_far (line : Int) {w : World} (a1 a2 : Option Addr) (m1 c1 m2 c2 : Nat) (V : Nat → Int) (z : Nat → Bool) (h1 : IsRow w a1 m1 (fun i => .int .u8 (V i))) (h2 : IsRow w a2 m2 (fun i => .bool (z i))) (hv : ∀ i, 0 ≤ V i ∧ V i ≤ 255) :
    Calls Try.prog 4 #[.int .i64 line, .slice a1 m1 c1, .slice a2 m2 c2, .bool true] w fun e w' => e = .returned (.bool true) ∧ Below w.heap.size w w' := by
  have R1 := Lib.hid h1
  have R2 := Lib.hid h2
  have HVB := Lib.hid hv
  clear h1 h2 hv
  have hmk : ∀ wq, (Instr.makeSlice 37 (.int .i64 64) (.int .i64 64)).run Try.prog wq = .ok (.slice (some ⟨wq.heap.size, 0, none⟩) 64 64) (wq.alloc (.cells (List.replicate 64 (Value.int .u8 0)).toArray 5)) := fun wq => by
    have := run_make_row' (P := Try.prog) 37 5 (.int .u8 0) 1 Try.underlying37 A_info5 rfl .i64 .i64 64 (by omega) (by omega) wq
    rw [made64] at this
    exact this
  have hmb : ∀ wq, (Instr.makeSlice 38 (.int .i64 64) (.int .i64 64)).run Try.prog wq = .ok (.slice (some ⟨wq.heap.size, 0, none⟩) 64 64) (wq.alloc (.cells (List.replicate 64 (Value.bool false)).toArray 4)) := fun wq => by
    have := run_make_row' (P := Try.prog) 38 4 (.bool false) 1 Try.underlying38 A_info4 rfl .i64 .i64 64 (by omega) (by omega) wq
    rw [made64b] at this
    exact this
  go_enter Try.func4, Try.ntmps4
  go_wp2_with fail
  refine (shere_new 4 (by decide) (by decide) w).mono ?_
  rintro e w1 ⟨β, rfl, h1⟩
  have H1 := Lib.hid h1
  clear h1
  go_wp2_with fail
  refine (awake_ok _).mono ?_
  rintro e w2 ⟨rfl, hb⟩
  have H2 := Lib.hid (H1.out.below hb)
  clear hb H1
  go_upto_region 7 with fail
  go_cut [12, 13] (fun s12 s13 wx => TwoNew w2 s12 s13 wx)
  case first =>
    clear R1 R2 H2
    have t1 := Lib.hid (two_new1 w2)
    have t2 := Lib.hid (two_new2 w2)
    go_region
    all_goals (go_wp2_with fail; go_meet; first | exact t1.out.drew | exact t2.out.drew)
  case rest =>
    obtain ⟨gd, gm, rfl, rfl, hne, hgd, hgm, ld, lm, hd, hm, hbw⟩ := hcut
    have HNE := Lib.hid hne
    have HGD := Lib.hid hgd
    have HGM := Lib.hid hgm
    have HD := Lib.hid hd
    have HM := Lib.hid hm
    have HBC := Lib.hid (below_then H2.out.keeps hbw H2.out.keeps.size)
    obtain ⟨S, hat, hS, hBW⟩ := H2.out
    have HAT := Lib.hid (hat.below hbw)
    have HSL : Hid (∀ g, S g → g < w2.heap.size) := fun g hg => hat.lt hg
    have HSG := Lib.hid hS
    have HRL : Hid (β.r < w2.heap.size) := by obtain ⟨SR, hr⟩ := hat.ram; obtain ⟨C, hC⟩ := ram_at hr; exact blk_lt hC
    have HWW : Hid (w.heap.size ≤ w2.heap.size) := hBW.size
    have HCC : Hid (w.heap.size ≤ wc.heap.size) := Nat.le_trans hBW.size hbw.size
    clear hne hgd hgm hd hm hbw hat hS hBW H2 ld lm
    obtain ⟨cs1, hcs1⟩ : ∃ c, c = (List.range (Nat.min m1 64)).map (fun i => Value.int .u8 (V i)) := ⟨_, rfl⟩
    obtain ⟨cs2, hcs2⟩ : ∃ c, c = (List.range (Nat.min m2 64)).map (fun i => Value.bool (z i)) := ⟨_, rfl⟩
    have HN1 : Hid (cs1.length = Nat.min m1 64) := by rw [hcs1]; show List.length _ = _; simp
    have HN2 : Hid (cs2.length = Nat.min m2 64) := by rw [hcs2]; show List.length _ = _; simp
    have HM1 : Hid (Nat.min m1 64 ≤ 64) := Nat.min_le_right _ _
    have HM2 : Hid (Nat.min m2 64 ≤ 64) := Nat.min_le_right _ _
    have HP1 : Hid (∀ W, Below w.heap.size w W → 0 < cs1.length → (some ⟨gd, 0, none⟩ : Option Addr) = some ⟨gd, 0, none⟩ ∧ ∃ ad, a1 = some ad ∧ ∀ j v, cs1[j]? = some v → W.cell? (ad.add j) = some v) := fun W hb h0 => by
      have hl := HN1.out
      have hle : Nat.min m1 64 ≤ m1 := Nat.min_le_left _ _
      obtain ⟨b, o, e, lt, hc⟩ := R1.out (by omega)
      refine ⟨rfl, _, e, fun j v hv => ?_⟩
      have hj : j < Nat.min m1 64 := by have := (List.getElem?_eq_some_iff.1 hv).1; omega
      rw [hcs1, List.getElem?_map, List.getElem?_range hj] at hv
      cases hv
      rw [addr_add]
      exact (hb.cell (p := ⟨b, o + j, none⟩) lt).trans (hc j (by omega))
    have HP2 : Hid (∀ W, Below w.heap.size w W → 0 < cs2.length → (some ⟨gm, 0, none⟩ : Option Addr) = some ⟨gm, 0, none⟩ ∧ ∃ ad, a2 = some ad ∧ ∀ j v, cs2[j]? = some v → W.cell? (ad.add j) = some v) := fun W hb h0 => by
      have hl := HN2.out
      have hle : Nat.min m2 64 ≤ m2 := Nat.min_le_left _ _
      obtain ⟨b, o, e, lt, hc⟩ := R2.out (by omega)
      refine ⟨rfl, _, e, fun j v hv => ?_⟩
      have hj : j < Nat.min m2 64 := by have := (List.getElem?_eq_some_iff.1 hv).1; omega
      rw [hcs2, List.getElem?_map, List.getElem?_range hj] at hv
      cases hv
      rw [addr_add]
      exact (hb.cell (p := ⟨b, o + j, none⟩) lt).trans (hc j (by omega))
    have HF1 : Hid (0 + cs1.length ≤ (List.replicate 64 (Value.int .u8 0)).length) := by have := HN1.out; have := HM1.out; show _ ≤ _; rw [List.length_replicate]; omega
    have HF2 : Hid (0 + cs2.length ≤ (List.replicate 64 (Value.bool false)).length) := by have := HN2.out; have := HM2.out; show _ ≤ _; rw [List.length_replicate]; omega
    have HO1 : Hid (∀ v ∈ cs1, v.oneCell' = true) := fun v hv => by rw [hcs1] at hv; simp only [List.mem_map] at hv; obtain ⟨_, _, rfl⟩ := hv; rfl
    have HO2 : Hid (∀ v ∈ cs2, v.oneCell' = true) := fun v hv => by rw [hcs2] at hv; simp only [List.mem_map] at hv; obtain ⟨_, _, rfl⟩ := hv; rfl
    have HR1 : Hid (splice (List.replicate 64 (Value.int .u8 0)) 0 cs1 = (List.range 64).map fun i => Value.int .u8 (beD m1 V i)) := by
      rw [hcs1]
      refine (splice_rows _ 64 _ HM1.out _).trans (List.map_congr_left fun i _ => ?_)
      unfold beD
      split <;> rfl
    have HR2 : Hid (splice (List.replicate 64 (Value.bool false)) 0 cs2 = (List.range 64).map fun i => Value.bool (beM m2 z i)) := by
      rw [hcs2]
      refine (splice_rows _ 64 _ HM2.out _).trans (List.map_congr_left fun i _ => ?_)
      unfold beM
      split <;> rfl
    clear hcs1 hcs2 R1 R2
    go_upto_region 9 with ((with_reducible refine wpList_copy_turn rfl (.tmp 42) (.tmp 43) 37 37 rfl 5 Try.underlying37 (by kernel_rfl) (some ⟨gd, 0, none⟩) a1 64 64 m1 c1 rfl rfl gd 0 (List.replicate 64 (Value.int .u8 0)) 5 HD.out cs1 HN1.out (HP1.out _ HBC.out) HF1.out HO1.out ?_); intro w4 hr4 ht4)
    have HB4 : Hid (Below w.heap.size w w4) := turned_below HBC.out ht4.out (fun g e => by have := HGD.out; have := HWW.out; omega) HCC.out
    have HS4 : Hid (wc.heap.size ≤ w4.heap.size) := ht4.out.size
    have HM4 : Hid (w4.heap[gm]? = some (.cells (List.replicate 64 (Value.bool false)).toArray 4 (0, 0))) := ht4.out.keep (fun e => HNE.out e.symm) HM.out
    have HA4 : Hid (SocAt w4 β (soc0 4 (fun _ => 0)) S) := HAT.out.turned ht4.out (fun e => by have := HRL.out; have := HGD.out; omega) (fun g hg e => by have := HSL.out g hg; have := HGD.out; omega)
    go_upto_region 10 with ((with_reducible refine wpList_copy_turn rfl (.tmp 45) (.tmp 46) 38 38 rfl 4 Try.underlying38 (by kernel_rfl) (some ⟨gm, 0, none⟩) a2 64 64 m2 c2 rfl rfl gm 0 (List.replicate 64 (Value.bool false)) 4 HM4.out cs2 HN2.out (HP2.out _ HB4.out) HF2.out HO2.out ?_); intro w5 hr5 ht5)
    rw [HR1.out] at hr4
    rw [HR2.out] at hr5
    have HB5 : Hid (Below w.heap.size w w5) := turned_below HB4.out ht5.out (fun g e => by have := HGM.out; have := HWW.out; omega) (Nat.le_trans HCC.out HS4.out)
    have HD5 : Hid (w5.heap[gd]? = some (.cells ((List.range 64).map fun i => Value.int .u8 (beD m1 V i)).toArray 5 (0, 0))) := ht5.out.keep HNE.out hr4.out
    have HM5 : Hid (w5.heap[gm]? = some (.cells ((List.range 64).map fun i => Value.bool (beM m2 z i)).toArray 4 (0, 0))) := hr5.out
    have HA5 : Hid (SocAt w5 β (soc0 4 (fun _ => 0)) S) := HA4.out.turned ht5.out (fun e => by have := HRL.out; have := HGM.out; omega) (fun g hg e => by have := HSL.out g hg; have := HGM.out; omega)
    have HDB : Hid (∀ i, 0 ≤ beD m1 V i ∧ beD m1 V i ≤ 255) := fun i => by unfold beD; split; exact HVB.out i; exact ⟨by omega, by omega⟩
    generalize beD m1 V = D at *
    generalize beM m2 z = M at *
    clear hr4 ht4 hr5 ht5 HB4 HS4 HM4 HA4 HR1 HR2 HN1 HN2 HP1 HP2 HF1 HF2 HO1 HO2 HM1 HM2 HD HM HBC HAT HVB
    go_wp2_with fail
    refine (beats_w_far HA5.out gd gm (fun e => by have := HSL.out _ e; have := HGD.out; omega) (fun e => by have := HSL.out _ e; have := HGM.out; omega) D M (isB_block HD5.out HDB.out) (isRow_block HM5.out)).mono ?_
    rintro e w6 ⟨rfl, hto⟩
    obtain ⟨S6, ha6, ht6, hs6⟩ := hto
    have HA6 := Lib.hid ha6
    have HSG6 : Hid (∀ g, S6 g → w.heap.size ≤ g) := fun g hg => (hs6 g hg).elim (HSG.out g) (fun e => Nat.le_trans HB5.out.size e)
    have HB6 : Hid (Below w.heap.size w w6) := turned_below HB5.out ht6 HSG.out HB5.out.size
    have HD6 := Lib.hid (ht6.keep (fun e => by have := HSL.out _ e; have := HGD.out; omega) HD5.out)
    have HM6 := Lib.hid (ht6.keep (fun e => by have := HSL.out _ e; have := HGM.out; omega) HM5.out)
    have HND : Hid (¬ S6 gd) := fun e => by
      rcases hs6 _ e with e | e
      · have := HSL.out _ e; have := HGD.out; omega
      · have := blk_lt HD5.out; omega
    have HNM : Hid (¬ S6 gm) := fun e => by
      rcases hs6 _ e with e | e
      · have := HSL.out _ e; have := HGM.out; omega
      · have := blk_lt HM5.out; omega
    clear ha6 ht6 hs6 HD5 HM5 HA5 HB5 HSL HSG

    go_wp2_with fail
    have hal := (Below.refl w6.heap.size w6).alloc (Nat.le_refl _) (.cells #[.int .i64 0, .int .i64 0, .slice none 0 0, .bool true] 40)
    refine (beats_r_far (HA6.out.below hal) rfl).mono ?_
    rintro e w7 ⟨gx, cx, rfl, lx, hcx, ltx, hb7⟩
    have hsz : (w6.alloc (.cells #[.int .i64 0, .int .i64 0, .slice none 0 0, .bool true] 40)).heap.size = w6.heap.size + 1 := by simp
    have HCX : Hid (∀ k, k < 64 → w7.cell? ⟨gx, k, none⟩ = some (.int .u8 0)) := fun k hk => by rw [hcx k hk]; rw [List.getD, List.getElem?_replicate, if_pos hk]; rfl
    have HL6 : Hid (∀ g, S6 g → g < w6.heap.size) := fun g hg => HA6.out.lt hg
    have HA7 := Lib.hid ((HA6.out.below hal).below hb7)
    have HD7 := Lib.hid (blk_below hb7 (blk_lt (blk_below hal (blk_lt HD6.out) HD6.out)) (blk_below hal (blk_lt HD6.out) HD6.out))
    have HM7 := Lib.hid (blk_below hb7 (blk_lt (blk_below hal (blk_lt HM6.out) HM6.out)) (blk_below hal (blk_lt HM6.out) HM6.out))
    have H14 := Lib.hid (blk_below hb7 (blk_lt (blk_alloc w6 _)) (blk_alloc w6 (.cells #[.int .i64 0, .int .i64 0, .slice none 0 0, .bool true] 40)))
    have HB7 : Hid (Below w.heap.size w w7) := below_then (below_then HB6.out hal HB6.out.size) hb7 (below_then HB6.out hal HB6.out.size).size
    have HLX : Hid (w6.heap.size < gx) := by show _ < _; omega
    have HLT := Lib.hid ltx
    have HS7 : Hid (w6.heap.size < w7.heap.size) := by have := hb7.size; show _ < _; omega
    have HDL : Hid (gd < w6.heap.size) := blk_lt HD6.out
    have HML : Hid (gm < w6.heap.size) := blk_lt HM6.out
    clear hal hcx ltx hb7 HD6 HM6 HA6 HB6 lx hsz
    go_upto_region 12 with fail
    have k14 := blk_below ((Below.refl w7.heap.size w7).alloc (Nat.le_refl _) (.cells #[.int .i64 0, .int .i64 0, .slice (some ⟨gx, 0, none⟩) 64 cx, .bool true] 40)) (blk_lt H14.out) H14.out
    have k15 := blk_alloc w7 (.cells #[.int .i64 0, .int .i64 0, .slice (some ⟨gx, 0, none⟩) 64 cx, .bool true] 40)
    have hal := (Below.refl w7.heap.size w7).alloc (Nat.le_refl _) (.cells #[.int .i64 0, .int .i64 0, .slice (some ⟨gx, 0, none⟩) 64 cx, .bool true] 40)
    generalize w7.alloc (.cells #[.int .i64 0, .int .i64 0, .slice (some ⟨gx, 0, none⟩) 64 cx, .bool true] 40) = w8 at *
    have H15 := Lib.hid k15
    have HD8 := Lib.hid (blk_below hal (blk_lt HD7.out) HD7.out)
    have HM8 := Lib.hid (blk_below hal (blk_lt HM7.out) HM7.out)
    have HX8 : Hid (∀ k, k < 64 → w8.cell? ⟨gx, k, none⟩ = some (.int .u8 0)) := fun k hk => (hal.cell (p := ⟨gx, k, none⟩) HLT.out).trans (HCX.out k hk)
    have HK8 : Hid (SBK w w8 β (soc0 4 (fun _ => 0)) (fun g => g = gd ∨ g = gm ∨ g = w7.heap.size ∨ g = gx) w8) := by
      have hs := HS7.out; have hd := HDL.out; have hm := HML.out; have hx := HLX.out; have hlt := HLT.out; have h15 := blk_lt H15.out
      refine ⟨S6, HA7.out.below hal, HSG6.out, below_then HB7.out hal HB7.out.size, fun g hg hs => ?_, fun g hg => ?_, Nat.le_refl _, fun _ _ => rfl⟩
      · have hl := HL6.out g hs
        rcases hg with rfl | rfl | rfl | rfl
        · exact HND.out hs
        · exact HNM.out hs
        · omega
        · omega
      · have := hal.size
        rcases hg with rfl | rfl | rfl | rfl <;> omega
    have c142 : w8.cell? ⟨w6.heap.size, 2, none⟩ = some (.slice none 0 0) := blk_cell k14 2
    have c143 : w8.cell? ⟨w6.heap.size, 3, none⟩ = some (.bool true) := blk_cell k14 3
    have c152 : w8.cell? ⟨w7.heap.size, 2, none⟩ = some (.slice (some ⟨gx, 0, none⟩) 64 cx) := blk_cell k15 2
    have c153 : w8.cell? ⟨w7.heap.size, 3, none⟩ = some (.bool true) := blk_cell k15 3
    clear k14 k15 hal HD7 HM7 HCX HA7 HB7 HL6 HND HNM HSG6 H14
    go_wp2_with fail
    clear c142 c143 c152 c153
    go_loopw [16] (fun i wr => ∃ k : Nat, (k : Int) ≤ 64 ∧ i = .int .i64 k ∧ SBK w w8 β (soc0 4 (fun _ => 0)) (fun g => g = gd ∨ g = gm ∨ g = w7.heap.size ∨ g = gx) wr) (fun i _ => 64 - (intOf i).toNat)
    case atStart => exact ⟨0, by omega, rfl, HK8.out⟩
    case round =>
      obtain ⟨k, hk, rfl, hs⟩ := hrel
      have HS := Lib.hid hs
      clear hs HK8
      by_cases hlt : (k : Int) < 64
      · have hk64 : k < 64 := by omega
        have hkeep : ∀ g, (g = gd ∨ g = gm ∨ g = w7.heap.size ∨ g = gx) → ∀ j, wr.cell? ⟨g, j, none⟩ = w8.cell? ⟨g, j, none⟩ := fun g hg j => by
          obtain ⟨_, _, _, _, _, _, _, q⟩ := HS.out
          have := q g hg
          unfold World.cell?
          simp only [this]
        have cm : wr.cell? ⟨gm, k, none⟩ = some (.bool (M k)) := by rw [hkeep gm (.inr (.inl rfl)), blk_cell HM8.out]; simp [hk64]
        have cd : wr.cell? ⟨gd, k, none⟩ = some (.int .u8 (D k)) := by rw [hkeep gd (.inl rfl), blk_cell HD8.out]; simp [hk64]
        have cx2 : wr.cell? ⟨w7.heap.size, 2, none⟩ = some (.slice (some ⟨gx, 0, none⟩) 64 cx) := by rw [hkeep _ (.inr (.inr (.inl rfl)))]; exact blk_cell H15.out 2
        have cxk : wr.cell? ⟨gx, k, none⟩ = some (.int .u8 0) := by rw [hkeep gx (.inr (.inr (.inr rfl)))]; exact HX8.out k hk64
        clear hkeep hk
        generalize D k = d at *
        generalize M k = m at *
        have hw : IntKind.u64.wrap ((2147500000 : Int) + k) = 2147500000 + k := by rw [IntKind.wrap_u64]; omega
        by_cases h31 : (31 : Int) < k
        · have hrd := Lib.hid (HS.out.read_far rfl (2147500000 + k) (by omega) (by omega))
          rw [show ((2147500000 + k : Nat) : Int) = 2147500000 + k by omega] at hrd
          clear hk64
          cases m
          all_goals
            go_wp2_with fail
            refine hrd.out.mono ?_
            rintro e w9 ⟨rfl, hs9⟩
            have HS9 := Lib.hid hs9
            clear hs9 HS
            go_wp2
            go_roundw
            case rel => exact ⟨k + 1, by omega, by go_num, HS9.out⟩
            case measure => simp [intOf]; omega
        · have hrd := Lib.hid (HS.out.read rfl (2147500000 + k) (16352 + k) (by omega) (by omega))
          rw [show ((2147500000 + k : Nat) : Int) = 2147500000 + k by omega] at hrd
          clear hk64
          cases m
          all_goals
            go_wp2_with fail
            refine hrd.out.mono ?_
            rintro e w9 ⟨rfl, hs9⟩
            have HS9 := Lib.hid hs9
            clear hs9 HS
            go_wp2
            go_roundw
            case rel => exact ⟨k + 1, by omega, by go_num, HS9.out⟩
            case measure => simp [intOf]; omega
      · obtain rfl : k = 64 := by omega
        go_wp2
        go_ret
        exact ⟨rfl, by obtain ⟨_, _, _, q, _⟩ := HS.out; exact q⟩
theorem beats_row (W : World) (a0 : Int) {p0 : Prop} (w0 : p0)
    (a1 : Option Addr) (len1 cap1 : Nat) (z1 : Nat → Int) (b1 : ∀ i, (Lit.int .u8 (z1 i)).wf = true) (w1 : ArgRow W a1 len1 cap1 (fun i => .int .u8 (z1 i))) (m1 : cap1 * 1 ≤ 140737488351232)
    (a2 : Option Addr) (len2 cap2 : Nat) (z2 : Nat → Bool) (w2 : ArgRow W a2 len2 cap2 (fun i => .bool (z2 i))) (m2 : cap2 * 1 ≤ 140737488351232) (a3 : Bool) :
    Calls Try.prog 4 #[.int .i64 a0, .slice a1 len1 cap1, .slice a2 len2 cap2, .bool a3] W fun e w' => e = .returned (.bool true) ∧ Below W.heap.size W w' := by
  have e1 := w1.le; have e2 := w2.le
  cases a3
  · have h0 : 0 ≤ IntKind.u64.wrap a0 := by rw [IntKind.wrap_u64]; omega
    refine beats_near a0 ((IntKind.u64.wrap a0) % 250).toNat (by omega) ?_ a1 a2 len1 cap1 len2 cap2 z1 z2 (w1.row.le e1) (w2.row.le e2) (fun i => wf_u8' (b1 i))
    rw [Int.tmod_eq_emod_of_nonneg h0]
    omega
  · exact beats_far a0 a1 a2 len1 cap1 len2 cap2 z1 z2 (w1.row.le e1) (w2.row.le e2) (fun i => wf_u8' (b1 i))
end Go.Proofs.Ytefcdbpmpnmkjaa
end
