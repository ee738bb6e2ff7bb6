/- The law SocOnce's walk. No condition. -/
import Derived.Test.YtefcdbpmpnmkjaaPack12
import Derived.StillTailTactics
import Derived.BigRegion
import Derived.Deep.RegionWith
import Derived.Deep.RegionHeld3
import Derived.Deep.QuietTactic
import Derived.BigQuiet
import Derived.Deep.LoopGhost
import Derived.Deep.DeepCutAuto
import Derived.Deep.DeepFit
import Derived.Deep.DeepMust
import Derived.Handy
section
set_option linter.unusedVariables false
set_option linter.unusedSimpArgs false
namespace Go.Proofs.Ytefcdbpmpnmkjaa
open Go.RowKit
set_option maxRecDepth 100000
theorem log_form {w : World} {base : Nat} {v : Value} {l : List Acc} (h : w.ownsRow base 51 6 v l.length (l.flatMap Acc.vals)) : ∃ a c, v = .slice a l.length c := by
  obtain ⟨_, ⟨rfl, h0⟩ | ⟨g, cap, cur, rfl, _⟩⟩ := h
  · exact ⟨none, 0, by rw [h0]⟩
  · exact ⟨_, _, rfl⟩
theorem TwoK.blk {w wp wr : World} {βs βt : SocB} {σs σt : SocS} {g : Nat} (h : TwoK w wp βs βt σs σt (fun q => q = g) wr) {o : Obj} (ho : wp.heap[g]? = some o) : wr.heap[g]? = some o := by
  obtain ⟨Ss, St, h1, h2, h3, h4, h5, h6, h7, h8, h9⟩ := h
  exact (h9 g rfl).trans ho
/-- where the loop stands -/
def OnceK (w : World) (k : Nat) (βs βt : SocB) (s7 s8 : Value) (wr : World) : Prop := ∃ σ n, s7 = .int .i64 ((n : Nat) : Int) ∧ s8 = .int .i64 (k : Nat) ∧ TwoK w w βs βt σ σ (fun _ => False) wr ∧ σ.log.length = n ∧ n ≤ k ∧ σ.u.sent.length ≤ k
/-- where both accesses are over -/
def OnceC (w wa : World) (g : Nat) (βs βt : SocB) (σ : SocS) (x : Nat) (size : Int) (wrb : Bool) (s9 s10 s11 : Value) (wx : World) : Prop := ∃ er σ', s9 = .pointer (some ⟨g, 0, none⟩) ∧ s10 = .int .i64 er ∧ s11 = .int .i64 er ∧ TwoK w wa βs βt σ' σ' (fun q => q = g) wx ∧ Noted σ σ' x size wrb er
/-- what has been noted, looked at one by one -/
theorem accRow_at {w : World} {a : Option Addr} {l : List Acc} {d : Acc} (h : AccRow w a (l ++ [d])) : ∃ b o, a = some ⟨b, o, none⟩ ∧ b < w.heap.size ∧ w.rangeAt b (o + l.length * 6) d.vals := by
  obtain ⟨b, o, h1, h2, h3⟩ := h (by simp)
  refine ⟨b, o, h1, h2, ?_⟩
  have := h3 l.length (by simp)
  simpa using this
set_option maxHeartbeats 8000000 in
theorem once_law (a : Option Addr) (len cap : Nat) (z : Nat → SocOp) (hle : len ≤ cap) (hm : cap ≤ 9223372036854775807) (w : World) (hz : SocOps w a cap z) :
    Calls Try.prog 5 #[.slice a len cap] w fun e w' => e = .returned (.bool true) ∧ Below w.heap.size w w' := by
  have HZ := Lib.hid hz
  have HLE := Lib.hid hle
  have hm2 : (len : Int) ≤ 9223372036854775807 := by omega
  clear hz hle hm
  go_enter Try.func5, Try.ntmps5
  go_wp2_with fail
  refine (shere_new 4 (by decide) (by decide) w).mono ?_
  rintro e w1 ⟨βs, rfl, h1⟩
  have H1 := Lib.hid h1
  clear h1
  go_wp2_with fail
  refine (shere_new 4 (by decide) (by decide) w1).mono ?_
  rintro e w2 ⟨βt, rfl, h2⟩
  have H2 := Lib.hid (TwoK.new H1.out h2)
  clear h2 H1
  go_wp2_with fail
  refine (awake_ok _).mono ?_
  rintro e w3 ⟨rfl, hb⟩
  have H3 : Hid (OnceK w 0 βs βt (.int .i64 ((0 : Nat) : Int)) (.int .i64 ((0 : Nat) : Int)) w3) := ⟨_, 0, rfl, rfl, H2.out.below hb, rfl, Nat.le_refl _, Nat.le_refl _⟩
  clear hb H2
  go_wp2_with fail
  go_loopw [7, 8] (fun s7 s8 wr => ∃ k : Nat, (k : Int) ≤ len ∧ (k : Int) ≤ 100 ∧ OnceK w k βs βt s7 s8 wr) (fun _ i _ => 100 - (intOf i).toNat)
  case atStart => exact ⟨0, by omega, by omega, H3.out⟩
  case round =>
    clear H3
    obtain ⟨k, hk, hk100, σ, n, rfl, rfl, ht, hn, hnk, hsk⟩ := hrel
    have HT0 := Lib.hid ht; have HN := Lib.hid hn; have HNK := Lib.hid hnk; have HSK := Lib.hid hsk
    have hn100 : (n : Int) ≤ 100 := by omega
    clear ht hn hnk hsk
    by_cases hlt : (k : Int) < len
    · by_cases hlt100 : (k : Int) < 100
      · clear hk hk100
        obtain ⟨hok, bo, oo, rfl, hbl, hrange⟩ := HZ.out k (by have := HLE.out; omega)
        have hrange2 : wr.rangeAt bo (oo + k * 16) (z k).vals := fun j v hv => (HT0.out.keeps.cell (p := ⟨bo, oo + k * 16 + j, none⟩) hbl).trans (hrange j v hv)
        clear hrange
        generalize z k = op at hok hrange2
        obtain ⟨kd, l, rx, q2, q3, pa, size, v, port, id, ak, aa, beats, da, dl, dc, sa, sl, sc, asz, V, Z⟩ := op
        have HOK := Lib.hid hok
        have c0 : wr.cell? ⟨bo, oo + k * 16, none⟩ = some (.int .i64 kd) := hrange2 0 _ rfl
        have c1 : wr.cell? ⟨bo, oo + k * 16 + 1, none⟩ = some (.int .i64 l) := hrange2 1 _ rfl
        have c2 : wr.cell? ⟨bo, oo + k * 16 + 1 + 1, none⟩ = some (.int .i64 rx) := hrange2 2 _ rfl
        have c3 : wr.cell? ⟨bo, oo + k * 16 + 1 + 1 + 1, none⟩ = some (.int .i64 q2) := hrange2 3 _ rfl
        have c4 : wr.cell? ⟨bo, oo + k * 16 + 1 + 1 + 1 + 1, none⟩ = some (.int .i64 q3) := hrange2 4 _ rfl
        have c5 : wr.cell? ⟨bo, oo + k * 16 + 1 + 1 + 1 + 1 + 1, none⟩ = some (.int .u64 pa) := hrange2 5 _ rfl
        have c6 : wr.cell? ⟨bo, oo + k * 16 + 1 + 1 + 1 + 1 + 1 + 1, none⟩ = some (.int .i64 size) := hrange2 6 _ rfl
        have c7 : wr.cell? ⟨bo, oo + k * 16 + 1 + 1 + 1 + 1 + 1 + 1 + 1, none⟩ = some (.int .u64 v) := hrange2 7 _ rfl
        have c8 : wr.cell? ⟨bo, oo + k * 16 + 1 + 1 + 1 + 1 + 1 + 1 + 1 + 1, none⟩ = some (.int .i64 port) := hrange2 8 _ rfl
        have c9 : wr.cell? ⟨bo, oo + k * 16 + 1 + 1 + 1 + 1 + 1 + 1 + 1 + 1 + 1, none⟩ = some (.int .i64 id) := hrange2 9 _ rfl
        have c10 : wr.cell? ⟨bo, oo + k * 16 + 1 + 1 + 1 + 1 + 1 + 1 + 1 + 1 + 1 + 1, none⟩ = some (.int .i64 ak) := hrange2 10 _ rfl
        have c11 : wr.cell? ⟨bo, oo + k * 16 + 1 + 1 + 1 + 1 + 1 + 1 + 1 + 1 + 1 + 1 + 1, none⟩ = some (.int .u64 aa) := hrange2 11 _ rfl
        have c12 : wr.cell? ⟨bo, oo + k * 16 + 1 + 1 + 1 + 1 + 1 + 1 + 1 + 1 + 1 + 1 + 1 + 1, none⟩ = some (.int .i64 beats) := hrange2 12 _ rfl
        have c13 : wr.cell? ⟨bo, oo + k * 16 + 1 + 1 + 1 + 1 + 1 + 1 + 1 + 1 + 1 + 1 + 1 + 1 + 1, none⟩ = some (.slice da dl dc) := hrange2 13 _ rfl
        have c14 : wr.cell? ⟨bo, oo + k * 16 + 1 + 1 + 1 + 1 + 1 + 1 + 1 + 1 + 1 + 1 + 1 + 1 + 1 + 1, none⟩ = some (.slice sa sl sc) := hrange2 14 _ rfl
        have c15 : wr.cell? ⟨bo, oo + k * 16 + 1 + 1 + 1 + 1 + 1 + 1 + 1 + 1 + 1 + 1 + 1 + 1 + 1 + 1 + 1, none⟩ = some (.int .i64 asz) := hrange2 15 _ rfl
        clear hok hrange2
        have HT1 := Lib.hid (HT0.out.watch (o := (.cells #[.int .i64 kd, .int .i64 l, .int .i64 rx, .int .i64 q2, .int .i64 q3, .int .u64 pa, .int .i64 size, .int .u64 v, .int .i64 port, .int .i64 id, .int .i64 ak, .int .u64 aa, .int .i64 beats, .slice da dl dc, .slice sa sl sc, .int .i64 asz] 47)))
        have HB1 : Hid ((wr.alloc (.cells #[.int .i64 kd, .int .i64 l, .int .i64 rx, .int .i64 q2, .int .i64 q3, .int .u64 pa, .int .i64 size, .int .u64 v, .int .i64 port, .int .i64 id, .int .i64 ak, .int .u64 aa, .int .i64 beats, .slice da dl dc, .slice sa sl sc, .int .i64 asz] 47)).heap[wr.heap.size]? = some (.cells #[.int .i64 kd, .int .i64 l, .int .i64 rx, .int .i64 q2, .int .i64 q3, .int .u64 pa, .int .i64 size, .int .u64 v, .int .i64 port, .int .i64 id, .int .i64 ak, .int .u64 aa, .int .i64 beats, .slice da dl dc, .slice sa sl sc, .int .i64 asz] 47 (0, 0))) := blk_alloc _ _
        clear HT0
        have HP : Hid (pa < 2 ^ 64) := HOK.out.pa
        have HV : Hid (v < 2 ^ 64) := HOK.out.v
        have HLL : Hid (σ.log.length < 1000000) := by have := HN.out; have := HNK.out; show _ < _; omega
        have HSS : Hid (σ.u.sent.length < 1000000) := by have := HSK.out; show _ < _; omega
        clear HOK
        by_cases hkd : kd = 1 ∨ kd = 2
        ·
          have HWA : Hid (wr.alloc (.cells #[.int .i64 kd, .int .i64 l, .int .i64 rx, .int .i64 q2, .int .i64 q3, .int .u64 pa, .int .i64 size, .int .u64 v, .int .i64 port, .int .i64 id, .int .i64 ak, .int .u64 aa, .int .i64 beats, .slice da dl dc, .slice sa sl sc, .int .i64 asz] 47) = wr.alloc (.cells #[.int .i64 kd, .int .i64 l, .int .i64 rx, .int .i64 q2, .int .i64 q3, .int .u64 pa, .int .i64 size, .int .u64 v, .int .i64 port, .int .i64 id, .int .i64 ak, .int .u64 aa, .int .i64 beats, .slice da dl dc, .slice sa sl sc, .int .i64 asz] 47)) := rfl
          go_upto_if 56 with fail
          go_cut [56] (fun s56 wx => s56 = .bool true ∧ wx = wr.alloc (.cells #[.int .i64 kd, .int .i64 l, .int .i64 rx, .int .i64 q2, .int .i64 q3, .int .u64 pa, .int .i64 size, .int .u64 v, .int .i64 port, .int .i64 id, .int .i64 ak, .int .u64 aa, .int .i64 beats, .slice da dl dc, .slice sa sl sc, .int .i64 asz] 47))
          case first =>
            clear c0 c1 c2 c3 c4 c5 c6 c7 c8 c9 c10 c11 c12 c13 c14 c15
            rcases hkd with rfl | rfl
            · go_wp2_with fail
              go_meet
              exact ⟨rfl, rfl⟩
            · go_wp2_with fail
              go_meet
              exact ⟨rfl, rfl⟩
          case rest =>
          obtain ⟨rfl, rfl⟩ := hcut
          clear c0 c1 c2 c3 c4 c5 c6 c7 c8 c9 c10 c11 c12 c13 c14 c15
          have c0 : (wr.alloc (.cells #[.int .i64 kd, .int .i64 l, .int .i64 rx, .int .i64 q2, .int .i64 q3, .int .u64 pa, .int .i64 size, .int .u64 v, .int .i64 port, .int .i64 id, .int .i64 ak, .int .u64 aa, .int .i64 beats, .slice da dl dc, .slice sa sl sc, .int .i64 asz] 47)).cell? ⟨wr.heap.size, 0, none⟩ = some (.int .i64 kd) := blk_cell HB1.out 0
          have c1 : (wr.alloc (.cells #[.int .i64 kd, .int .i64 l, .int .i64 rx, .int .i64 q2, .int .i64 q3, .int .u64 pa, .int .i64 size, .int .u64 v, .int .i64 port, .int .i64 id, .int .i64 ak, .int .u64 aa, .int .i64 beats, .slice da dl dc, .slice sa sl sc, .int .i64 asz] 47)).cell? ⟨wr.heap.size, 1, none⟩ = some (.int .i64 l) := blk_cell HB1.out 1
          have c2 : (wr.alloc (.cells #[.int .i64 kd, .int .i64 l, .int .i64 rx, .int .i64 q2, .int .i64 q3, .int .u64 pa, .int .i64 size, .int .u64 v, .int .i64 port, .int .i64 id, .int .i64 ak, .int .u64 aa, .int .i64 beats, .slice da dl dc, .slice sa sl sc, .int .i64 asz] 47)).cell? ⟨wr.heap.size, 2, none⟩ = some (.int .i64 rx) := blk_cell HB1.out 2
          have c3 : (wr.alloc (.cells #[.int .i64 kd, .int .i64 l, .int .i64 rx, .int .i64 q2, .int .i64 q3, .int .u64 pa, .int .i64 size, .int .u64 v, .int .i64 port, .int .i64 id, .int .i64 ak, .int .u64 aa, .int .i64 beats, .slice da dl dc, .slice sa sl sc, .int .i64 asz] 47)).cell? ⟨wr.heap.size, 3, none⟩ = some (.int .i64 q2) := blk_cell HB1.out 3
          have c4 : (wr.alloc (.cells #[.int .i64 kd, .int .i64 l, .int .i64 rx, .int .i64 q2, .int .i64 q3, .int .u64 pa, .int .i64 size, .int .u64 v, .int .i64 port, .int .i64 id, .int .i64 ak, .int .u64 aa, .int .i64 beats, .slice da dl dc, .slice sa sl sc, .int .i64 asz] 47)).cell? ⟨wr.heap.size, 4, none⟩ = some (.int .i64 q3) := blk_cell HB1.out 4
          have c5 : (wr.alloc (.cells #[.int .i64 kd, .int .i64 l, .int .i64 rx, .int .i64 q2, .int .i64 q3, .int .u64 pa, .int .i64 size, .int .u64 v, .int .i64 port, .int .i64 id, .int .i64 ak, .int .u64 aa, .int .i64 beats, .slice da dl dc, .slice sa sl sc, .int .i64 asz] 47)).cell? ⟨wr.heap.size, 5, none⟩ = some (.int .u64 pa) := blk_cell HB1.out 5
          have c6 : (wr.alloc (.cells #[.int .i64 kd, .int .i64 l, .int .i64 rx, .int .i64 q2, .int .i64 q3, .int .u64 pa, .int .i64 size, .int .u64 v, .int .i64 port, .int .i64 id, .int .i64 ak, .int .u64 aa, .int .i64 beats, .slice da dl dc, .slice sa sl sc, .int .i64 asz] 47)).cell? ⟨wr.heap.size, 6, none⟩ = some (.int .i64 size) := blk_cell HB1.out 6
          have c7 : (wr.alloc (.cells #[.int .i64 kd, .int .i64 l, .int .i64 rx, .int .i64 q2, .int .i64 q3, .int .u64 pa, .int .i64 size, .int .u64 v, .int .i64 port, .int .i64 id, .int .i64 ak, .int .u64 aa, .int .i64 beats, .slice da dl dc, .slice sa sl sc, .int .i64 asz] 47)).cell? ⟨wr.heap.size, 7, none⟩ = some (.int .u64 v) := blk_cell HB1.out 7
          have c8 : (wr.alloc (.cells #[.int .i64 kd, .int .i64 l, .int .i64 rx, .int .i64 q2, .int .i64 q3, .int .u64 pa, .int .i64 size, .int .u64 v, .int .i64 port, .int .i64 id, .int .i64 ak, .int .u64 aa, .int .i64 beats, .slice da dl dc, .slice sa sl sc, .int .i64 asz] 47)).cell? ⟨wr.heap.size, 8, none⟩ = some (.int .i64 port) := blk_cell HB1.out 8
          go_upto_if 61 with fail
          go_cut [9, 10, 11] (fun s9 s10 s11 wx => OnceC w (wr.alloc (.cells #[.int .i64 kd, .int .i64 l, .int .i64 rx, .int .i64 q2, .int .i64 q3, .int .u64 pa, .int .i64 size, .int .u64 v, .int .i64 port, .int .i64 id, .int .i64 ak, .int .u64 aa, .int .i64 beats, .slice da dl dc, .slice sa sl sc, .int .i64 asz] 47)) wr.heap.size βs βt σ pa size (kd == 2) s9 s10 s11 wx)
          case first =>
           as_aux_lemma =>
            clear c0 c1 c2 c3 c4 c5 c6 c7 c8
            generalize hwa : (wr.alloc (.cells #[.int .i64 kd, .int .i64 l, .int .i64 rx, .int .i64 q2, .int .i64 q3, .int .u64 pa, .int .i64 size, .int .u64 v, .int .i64 port, .int .i64 id, .int .i64 ak, .int .u64 aa, .int .i64 beats, .slice da dl dc, .slice sa sl sc, .int .i64 asz] 47)) = wa at *
            have hsz : wr.heap.size < wa.heap.size := by rw [← hwa]; simp
            generalize wr.heap.size = g at *
            clear hwa
            have c0 : wa.cell? ⟨g, 0, none⟩ = some (.int .i64 kd) := blk_cell HB1.out 0
            have c5 : wa.cell? ⟨g, 5, none⟩ = some (.int .u64 pa) := blk_cell HB1.out 5
            have c6 : wa.cell? ⟨g, 6, none⟩ = some (.int .i64 size) := blk_cell HB1.out 6
            by_cases h1 : kd = 1
            · subst h1
              go_wp2_with fail
              refine (HT1.out.read pa HP.out size HLL.out).mono ?_
              rintro e w5 ⟨rfl, h5⟩
              have H5 := Lib.hid h5
              have hb5 := h5.blk HB1.out
              have k5 : w5.cell? ⟨g, 5, none⟩ = some (.int .u64 pa) := blk_cell hb5 5
              have k6 : w5.cell? ⟨g, 6, none⟩ = some (.int .i64 size) := blk_cell hb5 6
              clear h5 hb5 HT1
              go_wp2_with fail
              refine (H5.out.swap.read pa HP.out size HLL.out).mono ?_
              rintro e w6 ⟨rfl, h6⟩
              have H6 : Hid (OnceC w wa g βs βt σ pa size false (.pointer (some ⟨g, 0, none⟩)) (.int .i64 (σ.rd pa size).2.1) (.int .i64 (σ.rd pa size).2.1) w6) := ⟨_, _, rfl, rfl, rfl, h6.swap, σ.rd_noted pa size⟩
              clear h6 H5
              go_wp2_with fail
              go_meet
              exact H6.out
            · have h2 : kd = 2 := by omega
              subst h2
              clear h1 hkd
              go_wp2_with fail
              refine wp_region_held_drew (S := fun wq => wq.heap[g]? = some (.cells #[.int .i64 2, .int .i64 l, .int .i64 rx, .int .i64 q2, .int .i64 q3, .int .u64 pa, .int .i64 size, .int .u64 v, .int .i64 port, .int .i64 id, .int .i64 ak, .int .u64 aa, .int .i64 beats, .slice da dl dc, .slice sa sl sc, .int .i64 asz] 47 (0, 0))) (by kernel_rfl) HB1.out (fun hH => ?_)
              refine wpAnyH_take (i := 0) (oi := ⟨some 80, _, _, _, _, _⟩) (v := ?_) rfl (by kernel_rfl) (by kernel_rfl) (by kernel_rfl) (fun _ _ _ h => h) (Or.inl ⟨by kernel_rfl, ?_⟩) hH ?_
              rotate_left 1
              · intro wq hq; have p5 : wq.cell? ⟨g, 5, none⟩ = some (.int .u64 pa) := blk_cell hq 5; have p6 : wq.cell? ⟨g, 6, none⟩ = some (.int .i64 size) := blk_cell hq 6; have p7 : wq.cell? ⟨g, 7, none⟩ = some (.int .u64 v) := blk_cell hq 7; clear hq; first | (go_simp; done) | (go_simp; with_reducible rfl)
              simp only [Act.put, List.setIfInBounds_toArray, List.set_cons_zero, List.set_cons_succ]
              refine wpAnyH_take (i := 1) (oi := ⟨some 81, _, _, _, _, _⟩) (v := ?_) rfl (by kernel_rfl) (by kernel_rfl) (by kernel_rfl) (fun _ _ _ h => h) (Or.inl ⟨by kernel_rfl, ?_⟩) hH ?_
              rotate_left 1
              · intro wq hq; have p5 : wq.cell? ⟨g, 5, none⟩ = some (.int .u64 pa) := blk_cell hq 5; have p6 : wq.cell? ⟨g, 6, none⟩ = some (.int .i64 size) := blk_cell hq 6; have p7 : wq.cell? ⟨g, 7, none⟩ = some (.int .u64 v) := blk_cell hq 7; clear hq; first | (go_simp; done) | (go_simp; with_reducible rfl)
              simp only [Act.put, List.setIfInBounds_toArray, List.set_cons_zero, List.set_cons_succ]
              refine wpAnyH_take (i := 2) (oi := ⟨some 82, _, _, _, _, _⟩) (v := ?_) rfl (by kernel_rfl) (by kernel_rfl) (by kernel_rfl) (fun _ _ _ h => h) (Or.inl ⟨by kernel_rfl, ?_⟩) hH ?_
              rotate_left 1
              · intro wq hq; have p5 : wq.cell? ⟨g, 5, none⟩ = some (.int .u64 pa) := blk_cell hq 5; have p6 : wq.cell? ⟨g, 6, none⟩ = some (.int .i64 size) := blk_cell hq 6; have p7 : wq.cell? ⟨g, 7, none⟩ = some (.int .u64 v) := blk_cell hq 7; clear hq; first | (go_simp; done) | (go_simp; with_reducible rfl)
              simp only [Act.put, List.setIfInBounds_toArray, List.set_cons_zero, List.set_cons_succ]
              refine wpAnyH_take (i := 3) (oi := ⟨some 83, _, _, _, _, _⟩) (v := ?_) rfl (by kernel_rfl) (by kernel_rfl) (by kernel_rfl) (fun _ _ _ h => h) (Or.inl ⟨by kernel_rfl, ?_⟩) hH ?_
              rotate_left 1
              · intro wq hq; have p5 : wq.cell? ⟨g, 5, none⟩ = some (.int .u64 pa) := blk_cell hq 5; have p6 : wq.cell? ⟨g, 6, none⟩ = some (.int .i64 size) := blk_cell hq 6; have p7 : wq.cell? ⟨g, 7, none⟩ = some (.int .u64 v) := blk_cell hq 7; clear hq; first | (go_simp; done) | (go_simp; with_reducible rfl)
              simp only [Act.put, List.setIfInBounds_toArray, List.set_cons_zero, List.set_cons_succ]
              refine wpAnyH_take (i := 4) (oi := ⟨some 84, _, _, _, _, _⟩) (v := ?_) rfl (by kernel_rfl) (by kernel_rfl) (by kernel_rfl) (fun _ _ _ h => h) (Or.inl ⟨by kernel_rfl, ?_⟩) hH ?_
              rotate_left 1
              · intro wq hq; have p5 : wq.cell? ⟨g, 5, none⟩ = some (.int .u64 pa) := blk_cell hq 5; have p6 : wq.cell? ⟨g, 6, none⟩ = some (.int .i64 size) := blk_cell hq 6; have p7 : wq.cell? ⟨g, 7, none⟩ = some (.int .u64 v) := blk_cell hq 7; clear hq; first | (go_simp; done) | (go_simp; with_reducible rfl)
              simp only [Act.put, List.setIfInBounds_toArray, List.set_cons_zero, List.set_cons_succ]
              refine wpAnyH_take (i := 5) (oi := ⟨some 85, _, _, _, _, _⟩) (v := ?_) rfl (by kernel_rfl) (by kernel_rfl) (by kernel_rfl) (fun _ _ _ h => h) (Or.inl ⟨by kernel_rfl, ?_⟩) hH ?_
              rotate_left 1
              · intro wq hq; have p5 : wq.cell? ⟨g, 5, none⟩ = some (.int .u64 pa) := blk_cell hq 5; have p6 : wq.cell? ⟨g, 6, none⟩ = some (.int .i64 size) := blk_cell hq 6; have p7 : wq.cell? ⟨g, 7, none⟩ = some (.int .u64 v) := blk_cell hq 7; clear hq; first | (go_simp; done) | (go_simp; with_reducible rfl)
              simp only [Act.put, List.setIfInBounds_toArray, List.set_cons_zero, List.set_cons_succ]
              refine wpAnyH_take (i := 6) (oi := ⟨some 86, _, _, _, _, _⟩) (v := ?_) rfl (by kernel_rfl) (by kernel_rfl) (by kernel_rfl) (fun _ _ _ h => h) (Or.inl ⟨by kernel_rfl, ?_⟩) hH ?_
              rotate_left 1
              · intro wq hq; have p5 : wq.cell? ⟨g, 5, none⟩ = some (.int .u64 pa) := blk_cell hq 5; have p6 : wq.cell? ⟨g, 6, none⟩ = some (.int .i64 size) := blk_cell hq 6; have p7 : wq.cell? ⟨g, 7, none⟩ = some (.int .u64 v) := blk_cell hq 7; clear hq; first | (go_simp; done) | (go_simp; with_reducible rfl)
              simp only [Act.put, List.setIfInBounds_toArray, List.set_cons_zero, List.set_cons_succ]
              refine wpAnyH_take (i := 8) (oi := ⟨some 88, _, _, _, _, _⟩) (v := ?_) rfl (by kernel_rfl) (by kernel_rfl) (by kernel_rfl) (fun _ _ _ h => h) (Or.inl ⟨by kernel_rfl, ?_⟩) hH ?_
              rotate_left 1
              · intro wq hq; have p5 : wq.cell? ⟨g, 5, none⟩ = some (.int .u64 pa) := blk_cell hq 5; have p6 : wq.cell? ⟨g, 6, none⟩ = some (.int .i64 size) := blk_cell hq 6; have p7 : wq.cell? ⟨g, 7, none⟩ = some (.int .u64 v) := blk_cell hq 7; clear hq; first | (go_simp; done) | (go_simp; with_reducible rfl)
              simp only [Act.put, List.setIfInBounds_toArray, List.set_cons_zero, List.set_cons_succ]
              refine wpAnyH_take (i := 9) (oi := ⟨some 89, _, _, _, _, _⟩) (v := ?_) rfl (by kernel_rfl) (by kernel_rfl) (by kernel_rfl) (fun _ _ _ h => h) (Or.inl ⟨by kernel_rfl, ?_⟩) hH ?_
              rotate_left 1
              · intro wq hq; have p5 : wq.cell? ⟨g, 5, none⟩ = some (.int .u64 pa) := blk_cell hq 5; have p6 : wq.cell? ⟨g, 6, none⟩ = some (.int .i64 size) := blk_cell hq 6; have p7 : wq.cell? ⟨g, 7, none⟩ = some (.int .u64 v) := blk_cell hq 7; clear hq; first | (go_simp; done) | (go_simp; with_reducible rfl)
              simp only [Act.put, List.setIfInBounds_toArray, List.set_cons_zero, List.set_cons_succ]
              refine wpAnyH_take (i := 10) (oi := ⟨some 90, _, _, _, _, _⟩) (v := ?_) rfl (by kernel_rfl) (by kernel_rfl) (by kernel_rfl) (fun _ _ _ h => h) (Or.inl ⟨by kernel_rfl, ?_⟩) hH ?_
              rotate_left 1
              · intro wq hq; have p5 : wq.cell? ⟨g, 5, none⟩ = some (.int .u64 pa) := blk_cell hq 5; have p6 : wq.cell? ⟨g, 6, none⟩ = some (.int .i64 size) := blk_cell hq 6; have p7 : wq.cell? ⟨g, 7, none⟩ = some (.int .u64 v) := blk_cell hq 7; clear hq; first | (go_simp; done) | (go_simp; with_reducible rfl)
              simp only [Act.put, List.setIfInBounds_toArray, List.set_cons_zero, List.set_cons_succ]
              refine wpAnyH_take (i := 11) (oi := ⟨some 91, _, _, _, _, _⟩) (v := ?_) rfl (by kernel_rfl) (by kernel_rfl) (by kernel_rfl) (fun _ _ _ h => h) (Or.inl ⟨by kernel_rfl, ?_⟩) hH ?_
              rotate_left 1
              · intro wq hq; have p5 : wq.cell? ⟨g, 5, none⟩ = some (.int .u64 pa) := blk_cell hq 5; have p6 : wq.cell? ⟨g, 6, none⟩ = some (.int .i64 size) := blk_cell hq 6; have p7 : wq.cell? ⟨g, 7, none⟩ = some (.int .u64 v) := blk_cell hq 7; clear hq; first | (go_simp; done) | (go_simp; with_reducible rfl)
              simp only [Act.put, List.setIfInBounds_toArray, List.set_cons_zero, List.set_cons_succ]
              refine wpAnyH_take (i := 12) (oi := ⟨some 92, _, _, _, _, _⟩) (v := ?_) rfl (by kernel_rfl) (by kernel_rfl) (by kernel_rfl) (fun _ _ _ h => h) (Or.inl ⟨by kernel_rfl, ?_⟩) hH ?_
              rotate_left 1
              · intro wq hq; have p5 : wq.cell? ⟨g, 5, none⟩ = some (.int .u64 pa) := blk_cell hq 5; have p6 : wq.cell? ⟨g, 6, none⟩ = some (.int .i64 size) := blk_cell hq 6; have p7 : wq.cell? ⟨g, 7, none⟩ = some (.int .u64 v) := blk_cell hq 7; clear hq; first | (go_simp; done) | (go_simp; with_reducible rfl)
              simp only [Act.put, List.setIfInBounds_toArray, List.set_cons_zero, List.set_cons_succ]
              refine wpAnyH_take (i := 13) (oi := ⟨some 93, _, _, _, _, _⟩) (v := ?_) rfl (by kernel_rfl) (by kernel_rfl) (by kernel_rfl) (fun _ _ _ h => h) (Or.inl ⟨by kernel_rfl, ?_⟩) hH ?_
              rotate_left 1
              · intro wq hq; have p5 : wq.cell? ⟨g, 5, none⟩ = some (.int .u64 pa) := blk_cell hq 5; have p6 : wq.cell? ⟨g, 6, none⟩ = some (.int .i64 size) := blk_cell hq 6; have p7 : wq.cell? ⟨g, 7, none⟩ = some (.int .u64 v) := blk_cell hq 7; clear hq; first | (go_simp; done) | (go_simp; with_reducible rfl)
              simp only [Act.put, List.setIfInBounds_toArray, List.set_cons_zero, List.set_cons_succ]
              refine wpAnyH_take (i := 14) (oi := ⟨some 94, _, _, _, _, _⟩) (v := ?_) rfl (by kernel_rfl) (by kernel_rfl) (by kernel_rfl) (fun _ _ _ h => h) (Or.inl ⟨by kernel_rfl, ?_⟩) hH ?_
              rotate_left 1
              · intro wq hq; have p5 : wq.cell? ⟨g, 5, none⟩ = some (.int .u64 pa) := blk_cell hq 5; have p6 : wq.cell? ⟨g, 6, none⟩ = some (.int .i64 size) := blk_cell hq 6; have p7 : wq.cell? ⟨g, 7, none⟩ = some (.int .u64 v) := blk_cell hq 7; clear hq; first | (go_simp; done) | (go_simp; with_reducible rfl)
              simp only [Act.put, List.setIfInBounds_toArray, List.set_cons_zero, List.set_cons_succ]
              refine wpAnyH_ready (rs := [7]) (by kernel_rfl) (by simp) (AllReadyH.cons (o := ⟨some 87, _, _, _, _, _⟩) rfl (fun K hK => ?_) AllReadyH.nil)
              go_simp
              refine (HT1.out.drew.write pa HP.out size v HV.out HLL.out HSS.out).mono ?_
              rintro e w5 ⟨rfl, h5⟩
              have H5 := Lib.hid h5
              have hb5 := Lib.hid (h5.blk HB1.out)
              clear h5
              go_wp2_with fail
              refine hK.out _ _ hb5.out (fun hH => ?_)
              clear hK K
              try simp only [Act.put, List.setIfInBounds_toArray, List.set_cons_zero, List.set_cons_succ]
              refine wpAnyH_ready (rs := [15]) (by kernel_rfl) (by simp) (AllReadyH.cons (o := ⟨some 95, _, _, _, _, _⟩) rfl (fun K hK => ?_) AllReadyH.nil)
              go_simp
              refine (H5.out.swap.write pa HP.out size v HV.out HLL.out HSS.out).mono ?_
              rintro e w6 ⟨rfl, h6⟩
              have H6 : Hid (OnceC w wa g βs βt σ pa size true (.pointer (some ⟨g, 0, none⟩)) (.int .i64 (σ.wr pa size v).1) (.int .i64 (σ.wr pa size v).1) w6) := ⟨_, _, rfl, rfl, rfl, h6.swap, σ.wr_noted pa size v⟩
              have hb6 := Lib.hid (h6.blk HB1.out)
              clear h6
              go_wp2_with fail
              refine hK.out _ _ hb6.out (fun hH => ?_)
              clear hK K
              try simp only [Act.put, List.setIfInBounds_toArray, List.set_cons_zero, List.set_cons_succ]
              refine wpAnyH_take (i := 16) (oi := ⟨some 10, _, _, _, _, _⟩) (v := ?_) rfl (by kernel_rfl) (by kernel_rfl) (by kernel_rfl) (fun _ _ _ h => h) (Or.inl ⟨by kernel_rfl, ?_⟩) hH ?_
              rotate_left 1
              · intro wq hq; have p5 : wq.cell? ⟨g, 5, none⟩ = some (.int .u64 pa) := blk_cell hq 5; have p6 : wq.cell? ⟨g, 6, none⟩ = some (.int .i64 size) := blk_cell hq 6; have p7 : wq.cell? ⟨g, 7, none⟩ = some (.int .u64 v) := blk_cell hq 7; clear hq; first | (go_simp; done) | (go_simp; with_reducible rfl)
              simp only [Act.put, List.setIfInBounds_toArray, List.set_cons_zero, List.set_cons_succ]
              refine wpAnyH_take (i := 17) (oi := ⟨some 11, _, _, _, _, _⟩) (v := ?_) rfl (by kernel_rfl) (by kernel_rfl) (by kernel_rfl) (fun _ _ _ h => h) (Or.inl ⟨by kernel_rfl, ?_⟩) hH ?_
              rotate_left 1
              · intro wq hq; have p5 : wq.cell? ⟨g, 5, none⟩ = some (.int .u64 pa) := blk_cell hq 5; have p6 : wq.cell? ⟨g, 6, none⟩ = some (.int .i64 size) := blk_cell hq 6; have p7 : wq.cell? ⟨g, 7, none⟩ = some (.int .u64 v) := blk_cell hq 7; clear hq; first | (go_simp; done) | (go_simp; with_reducible rfl)
              simp only [Act.put, List.setIfInBounds_toArray, List.set_cons_zero, List.set_cons_succ]
              refine wpAnyH_done (by kernel_rfl) ?_ _
              clear hH
              go_wp2_with fail
              go_meet
              exact H6.out
          case rest =>
            clear c0 c1 c2 c3 c4 c5 c6 c7 c8
            generalize hwa : (wr.alloc (.cells #[.int .i64 kd, .int .i64 l, .int .i64 rx, .int .i64 q2, .int .i64 q3, .int .u64 pa, .int .i64 size, .int .u64 v, .int .i64 port, .int .i64 id, .int .i64 ak, .int .u64 aa, .int .i64 beats, .slice da dl dc, .slice sa sl sc, .int .i64 asz] 47)) = wa at *
            have HSZ : Hid (w.heap.size ≤ wa.heap.size) := HT1.out.keeps.size
            clear hwa HT1
            generalize wr.heap.size = g at *
            obtain ⟨er, σ', rfl, rfl, rfl, h4, hno⟩ := hcut
            generalize hwb : (kd == 2) = wb at *
            have H4 := Lib.hid h4
            have HNO := Lib.hid hno
            have HL4 : Hid (σ'.log.length < 1000000) := by
              show _ < _
              rcases hno.log with ⟨⟨d, hd, _⟩⟩ | ⟨hd, _⟩
              · rw [hd]; simp; have := HN.out; omega
              · rw [hd]; exact HLL.out
            have hb4 := h4.blk HB1.out
            have c0 : wc.cell? ⟨g, 0, none⟩ = some (.int .i64 kd) := blk_cell hb4 0
            have c1 : wc.cell? ⟨g, 1, none⟩ = some (.int .i64 l) := blk_cell hb4 1
            have c2 : wc.cell? ⟨g, 2, none⟩ = some (.int .i64 rx) := blk_cell hb4 2
            have c3 : wc.cell? ⟨g, 3, none⟩ = some (.int .i64 q2) := blk_cell hb4 3
            have c4 : wc.cell? ⟨g, 4, none⟩ = some (.int .i64 q3) := blk_cell hb4 4
            have c5 : wc.cell? ⟨g, 5, none⟩ = some (.int .u64 pa) := blk_cell hb4 5
            have c6 : wc.cell? ⟨g, 6, none⟩ = some (.int .i64 size) := blk_cell hb4 6
            have c7 : wc.cell? ⟨g, 7, none⟩ = some (.int .u64 v) := blk_cell hb4 7
            have c8 : wc.cell? ⟨g, 8, none⟩ = some (.int .i64 port) := blk_cell hb4 8
            clear h4 hno hb4
            go_wp2_with fail
            refine (H4.out.log HL4.out).mono ?_
            rintro e w5 ⟨lv, rfl, how, hbel⟩
            obtain ⟨la, lc, rfl⟩ := log_form how
            have H5 := Lib.hid (H4.out.below hbel)
            have HR := Lib.hid (accRow_own how rfl)
            have hb5 := H5.out.blk HB1.out
            clear c0 c1 c2 c3 c4 c5 c6 c7 c8
            have c0 : w5.cell? ⟨g, 0, none⟩ = some (.int .i64 kd) := blk_cell hb5 0
            have c1 : w5.cell? ⟨g, 1, none⟩ = some (.int .i64 l) := blk_cell hb5 1
            have c2 : w5.cell? ⟨g, 2, none⟩ = some (.int .i64 rx) := blk_cell hb5 2
            have c3 : w5.cell? ⟨g, 3, none⟩ = some (.int .i64 q2) := blk_cell hb5 3
            have c4 : w5.cell? ⟨g, 4, none⟩ = some (.int .i64 q3) := blk_cell hb5 4
            have c5 : w5.cell? ⟨g, 5, none⟩ = some (.int .u64 pa) := blk_cell hb5 5
            have c6 : w5.cell? ⟨g, 6, none⟩ = some (.int .i64 size) := blk_cell hb5 6
            have c7 : w5.cell? ⟨g, 7, none⟩ = some (.int .u64 v) := blk_cell hb5 7
            have c8 : w5.cell? ⟨g, 8, none⟩ = some (.int .i64 port) := blk_cell hb5 8
            clear how hbel hb5 H4
            rcases HNO.out.log with ⟨⟨dd, hd, hx1, hx2⟩⟩ | ⟨hd, hd2⟩
            · as_aux_lemma =>
              have hlen : σ'.log.length = n + 1 := by rw [hd, List.length_append, HN.out]; rfl
              rw [hd] at HR
              obtain ⟨lb, lo, rfl, hlb, hrow⟩ := accRow_at HR.out
              rw [HN.out] at hrow
              have d0 : w5.cell? ⟨lb, lo + n * 6, none⟩ = some (.int .u64 σ.cycle) := hrow 0 _ rfl
              have d1 : w5.cell? ⟨lb, lo + n * 6 + 1, none⟩ = some (.int .u64 pa) := hrow 1 _ rfl
              have d2 : w5.cell? ⟨lb, lo + n * 6 + 1 + 1, none⟩ = some (.int .i64 size) := hrow 2 _ rfl
              have d3 : w5.cell? ⟨lb, lo + n * 6 + 1 + 1 + 1, none⟩ = some (.bool wb) := hrow 3 _ rfl
              have d4 : w5.cell? ⟨lb, lo + n * 6 + 1 + 1 + 1 + 1, none⟩ = some (.int .u64 dd) := hrow 4 _ rfl
              have d5 : w5.cell? ⟨lb, lo + n * 6 + 1 + 1 + 1 + 1 + 1, none⟩ = some (.bool (er != 0)) := hrow 5 _ rfl
              rw [hlen]
              have HX : Hid ((33554432 : Int) ≤ pa ∧ (pa : Int) < 2147483648) := ⟨by omega, by omega⟩
              have x1 : decide ((pa : Int) ≥ 2147483648) = false := by simp; omega
              have x2 : decide ((pa : Int) < 33554432) = false := by simp; omega
              clear hrow hx1 hx2
              have ALC : Hid (Below w5.heap.size w5 (w5.alloc (.cells #[.int .u64 σ.cycle, .int .u64 pa, .int .i64 size, .bool wb, .int .u64 dd, .bool (er != 0)] 51))) := (Below.refl _ _).alloc (Nat.le_refl _) _
              have H6 := Lib.hid (H5.out.below ALC.out)
              have HG := Lib.hid (H6.out.blk HB1.out)
              have HH := Lib.hid (blk_alloc w5 (.cells #[.int .u64 σ.cycle, .int .u64 pa, .int .i64 size, .bool wb, .int .u64 dd, .bool (er != 0)] 51))
              have HCY := H6.out.drew.cycle
              rw [HNO.out.cycle] at HCY
              have HC := Lib.hid HCY
              have H7 : Hid (OnceK w (k + 1) βs βt (.int .i64 ((n + 1 : Nat) : Int)) (.int .i64 ((k + 1 : Nat) : Int)) (w5.alloc (.cells #[.int .u64 σ.cycle, .int .u64 pa, .int .i64 size, .bool wb, .int .u64 dd, .bool (er != 0)] 51)).drew) :=
                ⟨σ', n + 1, rfl, rfl, H6.out.drew.forget H6.out.drew.keeps.size, hlen, by have := HNK.out; omega, by have := HNO.out.sent; have := HSK.out; omega⟩
              clear HCY ALC H6 H5 HNO HL4 HR HX hlb
              go_wp2_with fail
              clear c0 c1 c2 c3 c4 c5 c6 c7 c8 d0 d1 d2 d3 d4 d5
              generalize (w5.alloc (.cells #[.int .u64 σ.cycle, .int .u64 pa, .int .i64 size, .bool wb, .int .u64 dd, .bool (er != 0)] 51)) = w6 at *
              generalize w5.heap.size = h at *
              refine wp_region_held_drew (S := fun wq => wq.heap[g]? = some (.cells #[.int .i64 kd, .int .i64 l, .int .i64 rx, .int .i64 q2, .int .i64 q3, .int .u64 pa, .int .i64 size, .int .u64 v, .int .i64 port, .int .i64 id, .int .i64 ak, .int .u64 aa, .int .i64 beats, .slice da dl dc, .slice sa sl sc, .int .i64 asz] 47 (0, 0)) ∧ wq.heap[h]? = some (.cells #[.int .u64 σ.cycle, .int .u64 pa, .int .i64 size, .bool wb, .int .u64 dd, .bool (er != 0)] 51 (0, 0))) (by kernel_rfl) ⟨HG.out, HH.out⟩ (fun hH => ?_)
              refine wpAnyH_take (i := 0) (oi := ⟨some 110, _, _, _, _, _⟩) (v := ?_) rfl (by kernel_rfl) (by kernel_rfl) (by kernel_rfl) (fun _ _ _ h => h) (Or.inl ⟨by kernel_rfl, ?_⟩) hH ?_
              rotate_left 1
              · intro wq hq; have p0 : wq.cell? ⟨g, 0, none⟩ = some (.int .i64 kd) := blk_cell hq.1 0; have p5 : wq.cell? ⟨g, 5, none⟩ = some (.int .u64 pa) := blk_cell hq.1 5; have p6 : wq.cell? ⟨g, 6, none⟩ = some (.int .i64 size) := blk_cell hq.1 6; have q0 : wq.cell? ⟨h, 0, none⟩ = some (.int .u64 σ.cycle) := blk_cell hq.2 0; have q1 : wq.cell? ⟨h, 1, none⟩ = some (.int .u64 pa) := blk_cell hq.2 1; have q2 : wq.cell? ⟨h, 2, none⟩ = some (.int .i64 size) := blk_cell hq.2 2; have q3 : wq.cell? ⟨h, 3, none⟩ = some (.bool wb) := blk_cell hq.2 3; have q4 : wq.cell? ⟨h, 4, none⟩ = some (.int .u64 dd) := blk_cell hq.2 4; have q5 : wq.cell? ⟨h, 5, none⟩ = some (.bool (er != 0)) := blk_cell hq.2 5; clear hq; first | (go_simp; done) | (go_simp; with_reducible rfl)
              simp only [Act.put, List.setIfInBounds_toArray, List.set_cons_zero, List.set_cons_succ]
              refine wpAnyH_take (i := 1) (oi := ⟨some 111, _, _, _, _, _⟩) (v := ?_) rfl (by kernel_rfl) (by kernel_rfl) (by kernel_rfl) (fun _ _ _ h => h) (Or.inl ⟨by kernel_rfl, ?_⟩) hH ?_
              rotate_left 1
              · intro wq hq; have p0 : wq.cell? ⟨g, 0, none⟩ = some (.int .i64 kd) := blk_cell hq.1 0; have p5 : wq.cell? ⟨g, 5, none⟩ = some (.int .u64 pa) := blk_cell hq.1 5; have p6 : wq.cell? ⟨g, 6, none⟩ = some (.int .i64 size) := blk_cell hq.1 6; have q0 : wq.cell? ⟨h, 0, none⟩ = some (.int .u64 σ.cycle) := blk_cell hq.2 0; have q1 : wq.cell? ⟨h, 1, none⟩ = some (.int .u64 pa) := blk_cell hq.2 1; have q2 : wq.cell? ⟨h, 2, none⟩ = some (.int .i64 size) := blk_cell hq.2 2; have q3 : wq.cell? ⟨h, 3, none⟩ = some (.bool wb) := blk_cell hq.2 3; have q4 : wq.cell? ⟨h, 4, none⟩ = some (.int .u64 dd) := blk_cell hq.2 4; have q5 : wq.cell? ⟨h, 5, none⟩ = some (.bool (er != 0)) := blk_cell hq.2 5; clear hq; first | (go_simp; done) | (go_simp; with_reducible rfl)
              simp only [Act.put, List.setIfInBounds_toArray, List.set_cons_zero, List.set_cons_succ]
              refine wpAnyH_take (i := 2) (oi := ⟨some 112, _, _, _, _, _⟩) (v := ?_) rfl (by kernel_rfl) (by kernel_rfl) (by kernel_rfl) (fun _ _ _ h => h) (Or.inl ⟨by kernel_rfl, ?_⟩) hH ?_
              rotate_left 1
              · intro wq hq; have p0 : wq.cell? ⟨g, 0, none⟩ = some (.int .i64 kd) := blk_cell hq.1 0; have p5 : wq.cell? ⟨g, 5, none⟩ = some (.int .u64 pa) := blk_cell hq.1 5; have p6 : wq.cell? ⟨g, 6, none⟩ = some (.int .i64 size) := blk_cell hq.1 6; have q0 : wq.cell? ⟨h, 0, none⟩ = some (.int .u64 σ.cycle) := blk_cell hq.2 0; have q1 : wq.cell? ⟨h, 1, none⟩ = some (.int .u64 pa) := blk_cell hq.2 1; have q2 : wq.cell? ⟨h, 2, none⟩ = some (.int .i64 size) := blk_cell hq.2 2; have q3 : wq.cell? ⟨h, 3, none⟩ = some (.bool wb) := blk_cell hq.2 3; have q4 : wq.cell? ⟨h, 4, none⟩ = some (.int .u64 dd) := blk_cell hq.2 4; have q5 : wq.cell? ⟨h, 5, none⟩ = some (.bool (er != 0)) := blk_cell hq.2 5; clear hq; first | (go_simp; done) | (go_simp; with_reducible rfl)
              simp only [Act.put, List.setIfInBounds_toArray, List.set_cons_zero, List.set_cons_succ]
              refine wpAnyH_take (i := 3) (oi := ⟨some 113, _, _, _, _, _⟩) (v := ?_) rfl (by kernel_rfl) (by kernel_rfl) (by kernel_rfl) (fun _ _ _ h => h) (Or.inl ⟨by kernel_rfl, ?_⟩) hH ?_
              rotate_left 1
              · intro wq hq; have p0 : wq.cell? ⟨g, 0, none⟩ = some (.int .i64 kd) := blk_cell hq.1 0; have p5 : wq.cell? ⟨g, 5, none⟩ = some (.int .u64 pa) := blk_cell hq.1 5; have p6 : wq.cell? ⟨g, 6, none⟩ = some (.int .i64 size) := blk_cell hq.1 6; have q0 : wq.cell? ⟨h, 0, none⟩ = some (.int .u64 σ.cycle) := blk_cell hq.2 0; have q1 : wq.cell? ⟨h, 1, none⟩ = some (.int .u64 pa) := blk_cell hq.2 1; have q2 : wq.cell? ⟨h, 2, none⟩ = some (.int .i64 size) := blk_cell hq.2 2; have q3 : wq.cell? ⟨h, 3, none⟩ = some (.bool wb) := blk_cell hq.2 3; have q4 : wq.cell? ⟨h, 4, none⟩ = some (.int .u64 dd) := blk_cell hq.2 4; have q5 : wq.cell? ⟨h, 5, none⟩ = some (.bool (er != 0)) := blk_cell hq.2 5; clear hq; first | (go_simp; done) | (go_simp; with_reducible rfl)
              simp only [Act.put, List.setIfInBounds_toArray, List.set_cons_zero, List.set_cons_succ]
              refine wpAnyH_take (i := 4) (oi := ⟨some 114, _, _, _, _, _⟩) (v := ?_) rfl (by kernel_rfl) (by kernel_rfl) (by kernel_rfl) (fun _ _ _ h => h) (Or.inl ⟨by kernel_rfl, ?_⟩) hH ?_
              rotate_left 1
              · intro wq hq; have p0 : wq.cell? ⟨g, 0, none⟩ = some (.int .i64 kd) := blk_cell hq.1 0; have p5 : wq.cell? ⟨g, 5, none⟩ = some (.int .u64 pa) := blk_cell hq.1 5; have p6 : wq.cell? ⟨g, 6, none⟩ = some (.int .i64 size) := blk_cell hq.1 6; have q0 : wq.cell? ⟨h, 0, none⟩ = some (.int .u64 σ.cycle) := blk_cell hq.2 0; have q1 : wq.cell? ⟨h, 1, none⟩ = some (.int .u64 pa) := blk_cell hq.2 1; have q2 : wq.cell? ⟨h, 2, none⟩ = some (.int .i64 size) := blk_cell hq.2 2; have q3 : wq.cell? ⟨h, 3, none⟩ = some (.bool wb) := blk_cell hq.2 3; have q4 : wq.cell? ⟨h, 4, none⟩ = some (.int .u64 dd) := blk_cell hq.2 4; have q5 : wq.cell? ⟨h, 5, none⟩ = some (.bool (er != 0)) := blk_cell hq.2 5; clear hq; first | (go_simp; done) | (go_simp; with_reducible rfl)
              simp only [Act.put, List.setIfInBounds_toArray, List.set_cons_zero, List.set_cons_succ]
              refine wpAnyH_take (i := 5) (oi := ⟨some 115, _, _, _, _, _⟩) (v := ?_) rfl (by kernel_rfl) (by kernel_rfl) (by kernel_rfl) (fun _ _ _ h => h) (Or.inl ⟨by kernel_rfl, ?_⟩) hH ?_
              rotate_left 1
              · intro wq hq; have p0 : wq.cell? ⟨g, 0, none⟩ = some (.int .i64 kd) := blk_cell hq.1 0; have p5 : wq.cell? ⟨g, 5, none⟩ = some (.int .u64 pa) := blk_cell hq.1 5; have p6 : wq.cell? ⟨g, 6, none⟩ = some (.int .i64 size) := blk_cell hq.1 6; have q0 : wq.cell? ⟨h, 0, none⟩ = some (.int .u64 σ.cycle) := blk_cell hq.2 0; have q1 : wq.cell? ⟨h, 1, none⟩ = some (.int .u64 pa) := blk_cell hq.2 1; have q2 : wq.cell? ⟨h, 2, none⟩ = some (.int .i64 size) := blk_cell hq.2 2; have q3 : wq.cell? ⟨h, 3, none⟩ = some (.bool wb) := blk_cell hq.2 3; have q4 : wq.cell? ⟨h, 4, none⟩ = some (.int .u64 dd) := blk_cell hq.2 4; have q5 : wq.cell? ⟨h, 5, none⟩ = some (.bool (er != 0)) := blk_cell hq.2 5; clear hq; first | (go_simp; done) | (go_simp; with_reducible rfl)
              simp only [Act.put, List.setIfInBounds_toArray, List.set_cons_zero, List.set_cons_succ]
              refine wpAnyH_take (i := 6) (oi := ⟨some 116, _, _, _, _, _⟩) (v := ?_) rfl (by kernel_rfl) (by kernel_rfl) (by kernel_rfl) (fun _ _ _ h => h) (Or.inl ⟨by kernel_rfl, ?_⟩) hH ?_
              rotate_left 1
              · intro wq hq; have p0 : wq.cell? ⟨g, 0, none⟩ = some (.int .i64 kd) := blk_cell hq.1 0; have p5 : wq.cell? ⟨g, 5, none⟩ = some (.int .u64 pa) := blk_cell hq.1 5; have p6 : wq.cell? ⟨g, 6, none⟩ = some (.int .i64 size) := blk_cell hq.1 6; have q0 : wq.cell? ⟨h, 0, none⟩ = some (.int .u64 σ.cycle) := blk_cell hq.2 0; have q1 : wq.cell? ⟨h, 1, none⟩ = some (.int .u64 pa) := blk_cell hq.2 1; have q2 : wq.cell? ⟨h, 2, none⟩ = some (.int .i64 size) := blk_cell hq.2 2; have q3 : wq.cell? ⟨h, 3, none⟩ = some (.bool wb) := blk_cell hq.2 3; have q4 : wq.cell? ⟨h, 4, none⟩ = some (.int .u64 dd) := blk_cell hq.2 4; have q5 : wq.cell? ⟨h, 5, none⟩ = some (.bool (er != 0)) := blk_cell hq.2 5; clear hq; first | (go_simp; done) | (go_simp; with_reducible rfl)
              simp only [Act.put, List.setIfInBounds_toArray, List.set_cons_zero, List.set_cons_succ]
              refine wpAnyH_take (i := 7) (oi := ⟨some 117, _, _, _, _, _⟩) (v := ?_) rfl (by kernel_rfl) (by kernel_rfl) (by kernel_rfl) (fun _ _ _ h => h) (Or.inl ⟨by kernel_rfl, ?_⟩) hH ?_
              rotate_left 1
              · intro wq hq; have p0 : wq.cell? ⟨g, 0, none⟩ = some (.int .i64 kd) := blk_cell hq.1 0; have p5 : wq.cell? ⟨g, 5, none⟩ = some (.int .u64 pa) := blk_cell hq.1 5; have p6 : wq.cell? ⟨g, 6, none⟩ = some (.int .i64 size) := blk_cell hq.1 6; have q0 : wq.cell? ⟨h, 0, none⟩ = some (.int .u64 σ.cycle) := blk_cell hq.2 0; have q1 : wq.cell? ⟨h, 1, none⟩ = some (.int .u64 pa) := blk_cell hq.2 1; have q2 : wq.cell? ⟨h, 2, none⟩ = some (.int .i64 size) := blk_cell hq.2 2; have q3 : wq.cell? ⟨h, 3, none⟩ = some (.bool wb) := blk_cell hq.2 3; have q4 : wq.cell? ⟨h, 4, none⟩ = some (.int .u64 dd) := blk_cell hq.2 4; have q5 : wq.cell? ⟨h, 5, none⟩ = some (.bool (er != 0)) := blk_cell hq.2 5; clear hq; first | (go_simp; done) | (go_simp; with_reducible rfl)
              simp only [Act.put, List.setIfInBounds_toArray, List.set_cons_zero, List.set_cons_succ]
              refine wpAnyH_take (i := 8) (oi := ⟨some 118, _, _, _, _, _⟩) (v := ?_) rfl (by kernel_rfl) (by kernel_rfl) (by kernel_rfl) (fun _ _ _ h => h) (Or.inl ⟨by kernel_rfl, ?_⟩) hH ?_
              rotate_left 1
              · intro wq hq; have p0 : wq.cell? ⟨g, 0, none⟩ = some (.int .i64 kd) := blk_cell hq.1 0; have p5 : wq.cell? ⟨g, 5, none⟩ = some (.int .u64 pa) := blk_cell hq.1 5; have p6 : wq.cell? ⟨g, 6, none⟩ = some (.int .i64 size) := blk_cell hq.1 6; have q0 : wq.cell? ⟨h, 0, none⟩ = some (.int .u64 σ.cycle) := blk_cell hq.2 0; have q1 : wq.cell? ⟨h, 1, none⟩ = some (.int .u64 pa) := blk_cell hq.2 1; have q2 : wq.cell? ⟨h, 2, none⟩ = some (.int .i64 size) := blk_cell hq.2 2; have q3 : wq.cell? ⟨h, 3, none⟩ = some (.bool wb) := blk_cell hq.2 3; have q4 : wq.cell? ⟨h, 4, none⟩ = some (.int .u64 dd) := blk_cell hq.2 4; have q5 : wq.cell? ⟨h, 5, none⟩ = some (.bool (er != 0)) := blk_cell hq.2 5; clear hq; first | (go_simp; done) | (go_simp; with_reducible rfl)
              simp only [Act.put, List.setIfInBounds_toArray, List.set_cons_zero, List.set_cons_succ]
              refine wpAnyH_take (i := 9) (oi := ⟨some 119, _, _, _, _, _⟩) (v := ?_) rfl (by kernel_rfl) (by kernel_rfl) (by kernel_rfl) (fun _ _ _ h => h) (Or.inl ⟨by kernel_rfl, ?_⟩) hH ?_
              rotate_left 1
              · intro wq hq; have p0 : wq.cell? ⟨g, 0, none⟩ = some (.int .i64 kd) := blk_cell hq.1 0; have p5 : wq.cell? ⟨g, 5, none⟩ = some (.int .u64 pa) := blk_cell hq.1 5; have p6 : wq.cell? ⟨g, 6, none⟩ = some (.int .i64 size) := blk_cell hq.1 6; have q0 : wq.cell? ⟨h, 0, none⟩ = some (.int .u64 σ.cycle) := blk_cell hq.2 0; have q1 : wq.cell? ⟨h, 1, none⟩ = some (.int .u64 pa) := blk_cell hq.2 1; have q2 : wq.cell? ⟨h, 2, none⟩ = some (.int .i64 size) := blk_cell hq.2 2; have q3 : wq.cell? ⟨h, 3, none⟩ = some (.bool wb) := blk_cell hq.2 3; have q4 : wq.cell? ⟨h, 4, none⟩ = some (.int .u64 dd) := blk_cell hq.2 4; have q5 : wq.cell? ⟨h, 5, none⟩ = some (.bool (er != 0)) := blk_cell hq.2 5; clear hq; first | (go_simp; done) | (go_simp; with_reducible rfl)
              simp only [Act.put, List.setIfInBounds_toArray, List.set_cons_zero, List.set_cons_succ]
              refine wpAnyH_take (i := 10) (oi := ⟨some 120, _, _, _, _, _⟩) (v := ?_) rfl (by kernel_rfl) (by kernel_rfl) (by kernel_rfl) (fun _ _ _ h => h) (Or.inl ⟨by kernel_rfl, ?_⟩) hH ?_
              rotate_left 1
              · intro wq hq; have p0 : wq.cell? ⟨g, 0, none⟩ = some (.int .i64 kd) := blk_cell hq.1 0; have p5 : wq.cell? ⟨g, 5, none⟩ = some (.int .u64 pa) := blk_cell hq.1 5; have p6 : wq.cell? ⟨g, 6, none⟩ = some (.int .i64 size) := blk_cell hq.1 6; have q0 : wq.cell? ⟨h, 0, none⟩ = some (.int .u64 σ.cycle) := blk_cell hq.2 0; have q1 : wq.cell? ⟨h, 1, none⟩ = some (.int .u64 pa) := blk_cell hq.2 1; have q2 : wq.cell? ⟨h, 2, none⟩ = some (.int .i64 size) := blk_cell hq.2 2; have q3 : wq.cell? ⟨h, 3, none⟩ = some (.bool wb) := blk_cell hq.2 3; have q4 : wq.cell? ⟨h, 4, none⟩ = some (.int .u64 dd) := blk_cell hq.2 4; have q5 : wq.cell? ⟨h, 5, none⟩ = some (.bool (er != 0)) := blk_cell hq.2 5; clear hq; first | (go_simp; done) | (go_simp; with_reducible rfl)
              simp only [Act.put, List.setIfInBounds_toArray, List.set_cons_zero, List.set_cons_succ]
              refine wpAnyH_take (i := 11) (oi := ⟨some 121, _, _, _, _, _⟩) (v := ?_) rfl (by kernel_rfl) (by kernel_rfl) (by kernel_rfl) (fun _ _ _ h => h) (Or.inl ⟨by kernel_rfl, ?_⟩) hH ?_
              rotate_left 1
              · intro wq hq; have p0 : wq.cell? ⟨g, 0, none⟩ = some (.int .i64 kd) := blk_cell hq.1 0; have p5 : wq.cell? ⟨g, 5, none⟩ = some (.int .u64 pa) := blk_cell hq.1 5; have p6 : wq.cell? ⟨g, 6, none⟩ = some (.int .i64 size) := blk_cell hq.1 6; have q0 : wq.cell? ⟨h, 0, none⟩ = some (.int .u64 σ.cycle) := blk_cell hq.2 0; have q1 : wq.cell? ⟨h, 1, none⟩ = some (.int .u64 pa) := blk_cell hq.2 1; have q2 : wq.cell? ⟨h, 2, none⟩ = some (.int .i64 size) := blk_cell hq.2 2; have q3 : wq.cell? ⟨h, 3, none⟩ = some (.bool wb) := blk_cell hq.2 3; have q4 : wq.cell? ⟨h, 4, none⟩ = some (.int .u64 dd) := blk_cell hq.2 4; have q5 : wq.cell? ⟨h, 5, none⟩ = some (.bool (er != 0)) := blk_cell hq.2 5; clear hq; first | (go_simp; done) | (go_simp; with_reducible rfl)
              simp only [Act.put, List.setIfInBounds_toArray, List.set_cons_zero, List.set_cons_succ]
              refine wpAnyH_take (i := 12) (oi := ⟨some 122, _, _, _, _, _⟩) (v := ?_) rfl (by kernel_rfl) (by kernel_rfl) (by kernel_rfl) (fun _ _ _ h => h) (Or.inl ⟨by kernel_rfl, ?_⟩) hH ?_
              rotate_left 1
              · intro wq hq; have p0 : wq.cell? ⟨g, 0, none⟩ = some (.int .i64 kd) := blk_cell hq.1 0; have p5 : wq.cell? ⟨g, 5, none⟩ = some (.int .u64 pa) := blk_cell hq.1 5; have p6 : wq.cell? ⟨g, 6, none⟩ = some (.int .i64 size) := blk_cell hq.1 6; have q0 : wq.cell? ⟨h, 0, none⟩ = some (.int .u64 σ.cycle) := blk_cell hq.2 0; have q1 : wq.cell? ⟨h, 1, none⟩ = some (.int .u64 pa) := blk_cell hq.2 1; have q2 : wq.cell? ⟨h, 2, none⟩ = some (.int .i64 size) := blk_cell hq.2 2; have q3 : wq.cell? ⟨h, 3, none⟩ = some (.bool wb) := blk_cell hq.2 3; have q4 : wq.cell? ⟨h, 4, none⟩ = some (.int .u64 dd) := blk_cell hq.2 4; have q5 : wq.cell? ⟨h, 5, none⟩ = some (.bool (er != 0)) := blk_cell hq.2 5; clear hq; first | (go_simp; done) | (go_simp; with_reducible rfl)
              simp only [Act.put, List.setIfInBounds_toArray, List.set_cons_zero, List.set_cons_succ]
              refine wpAnyH_take (i := 13) (oi := ⟨some 123, _, _, _, _, _⟩) (v := ?_) rfl (by kernel_rfl) (by kernel_rfl) (by kernel_rfl) (fun _ _ _ h => h) (Or.inl ⟨by kernel_rfl, ?_⟩) hH ?_
              rotate_left 1
              · intro wq hq; have p0 : wq.cell? ⟨g, 0, none⟩ = some (.int .i64 kd) := blk_cell hq.1 0; have p5 : wq.cell? ⟨g, 5, none⟩ = some (.int .u64 pa) := blk_cell hq.1 5; have p6 : wq.cell? ⟨g, 6, none⟩ = some (.int .i64 size) := blk_cell hq.1 6; have q0 : wq.cell? ⟨h, 0, none⟩ = some (.int .u64 σ.cycle) := blk_cell hq.2 0; have q1 : wq.cell? ⟨h, 1, none⟩ = some (.int .u64 pa) := blk_cell hq.2 1; have q2 : wq.cell? ⟨h, 2, none⟩ = some (.int .i64 size) := blk_cell hq.2 2; have q3 : wq.cell? ⟨h, 3, none⟩ = some (.bool wb) := blk_cell hq.2 3; have q4 : wq.cell? ⟨h, 4, none⟩ = some (.int .u64 dd) := blk_cell hq.2 4; have q5 : wq.cell? ⟨h, 5, none⟩ = some (.bool (er != 0)) := blk_cell hq.2 5; clear hq; first | (go_simp; done) | (go_simp; with_reducible rfl)
              simp only [Act.put, List.setIfInBounds_toArray, List.set_cons_zero, List.set_cons_succ]
              refine wpAnyH_take (i := 14) (oi := ⟨some 124, _, _, _, _, _⟩) (v := ?_) rfl (by kernel_rfl) (by kernel_rfl) (by kernel_rfl) (fun _ _ _ h => h) (Or.inl ⟨by kernel_rfl, ?_⟩) hH ?_
              rotate_left 1
              · intro wq hq; have p0 : wq.cell? ⟨g, 0, none⟩ = some (.int .i64 kd) := blk_cell hq.1 0; have p5 : wq.cell? ⟨g, 5, none⟩ = some (.int .u64 pa) := blk_cell hq.1 5; have p6 : wq.cell? ⟨g, 6, none⟩ = some (.int .i64 size) := blk_cell hq.1 6; have q0 : wq.cell? ⟨h, 0, none⟩ = some (.int .u64 σ.cycle) := blk_cell hq.2 0; have q1 : wq.cell? ⟨h, 1, none⟩ = some (.int .u64 pa) := blk_cell hq.2 1; have q2 : wq.cell? ⟨h, 2, none⟩ = some (.int .i64 size) := blk_cell hq.2 2; have q3 : wq.cell? ⟨h, 3, none⟩ = some (.bool wb) := blk_cell hq.2 3; have q4 : wq.cell? ⟨h, 4, none⟩ = some (.int .u64 dd) := blk_cell hq.2 4; have q5 : wq.cell? ⟨h, 5, none⟩ = some (.bool (er != 0)) := blk_cell hq.2 5; clear hq; first | (go_simp; done) | (go_simp; with_reducible rfl)
              simp only [Act.put, List.setIfInBounds_toArray, List.set_cons_zero, List.set_cons_succ]
              refine wpAnyH_take (i := 15) (oi := ⟨some 125, _, _, _, _, _⟩) (v := ?_) rfl (by kernel_rfl) (by kernel_rfl) (by kernel_rfl) (fun _ _ _ h => h) (Or.inl ⟨by kernel_rfl, ?_⟩) hH ?_
              rotate_left 1
              · intro wq hq; have p0 : wq.cell? ⟨g, 0, none⟩ = some (.int .i64 kd) := blk_cell hq.1 0; have p5 : wq.cell? ⟨g, 5, none⟩ = some (.int .u64 pa) := blk_cell hq.1 5; have p6 : wq.cell? ⟨g, 6, none⟩ = some (.int .i64 size) := blk_cell hq.1 6; have q0 : wq.cell? ⟨h, 0, none⟩ = some (.int .u64 σ.cycle) := blk_cell hq.2 0; have q1 : wq.cell? ⟨h, 1, none⟩ = some (.int .u64 pa) := blk_cell hq.2 1; have q2 : wq.cell? ⟨h, 2, none⟩ = some (.int .i64 size) := blk_cell hq.2 2; have q3 : wq.cell? ⟨h, 3, none⟩ = some (.bool wb) := blk_cell hq.2 3; have q4 : wq.cell? ⟨h, 4, none⟩ = some (.int .u64 dd) := blk_cell hq.2 4; have q5 : wq.cell? ⟨h, 5, none⟩ = some (.bool (er != 0)) := blk_cell hq.2 5; clear hq; first | (go_simp; done) | (go_simp; with_reducible rfl)
              simp only [Act.put, List.setIfInBounds_toArray, List.set_cons_zero, List.set_cons_succ]
              refine wpAnyH_take (i := 16) (oi := ⟨some 126, _, _, _, _, _⟩) (v := ?_) rfl (by kernel_rfl) (by kernel_rfl) (by kernel_rfl) (fun _ _ _ h => h) (Or.inl ⟨by kernel_rfl, ?_⟩) hH ?_
              rotate_left 1
              · intro wq hq; have p0 : wq.cell? ⟨g, 0, none⟩ = some (.int .i64 kd) := blk_cell hq.1 0; have p5 : wq.cell? ⟨g, 5, none⟩ = some (.int .u64 pa) := blk_cell hq.1 5; have p6 : wq.cell? ⟨g, 6, none⟩ = some (.int .i64 size) := blk_cell hq.1 6; have q0 : wq.cell? ⟨h, 0, none⟩ = some (.int .u64 σ.cycle) := blk_cell hq.2 0; have q1 : wq.cell? ⟨h, 1, none⟩ = some (.int .u64 pa) := blk_cell hq.2 1; have q2 : wq.cell? ⟨h, 2, none⟩ = some (.int .i64 size) := blk_cell hq.2 2; have q3 : wq.cell? ⟨h, 3, none⟩ = some (.bool wb) := blk_cell hq.2 3; have q4 : wq.cell? ⟨h, 4, none⟩ = some (.int .u64 dd) := blk_cell hq.2 4; have q5 : wq.cell? ⟨h, 5, none⟩ = some (.bool (er != 0)) := blk_cell hq.2 5; clear hq; first | (go_simp; done) | (go_simp; with_reducible rfl)
              simp only [Act.put, List.setIfInBounds_toArray, List.set_cons_zero, List.set_cons_succ]
              refine wpAnyH_take (i := 17) (oi := ⟨some 127, _, _, _, _, _⟩) (v := ?_) rfl (by kernel_rfl) (by kernel_rfl) (by kernel_rfl) (fun _ _ _ h => h) (Or.inl ⟨by kernel_rfl, ?_⟩) hH ?_
              rotate_left 1
              · intro wq hq; have p0 : wq.cell? ⟨g, 0, none⟩ = some (.int .i64 kd) := blk_cell hq.1 0; have p5 : wq.cell? ⟨g, 5, none⟩ = some (.int .u64 pa) := blk_cell hq.1 5; have p6 : wq.cell? ⟨g, 6, none⟩ = some (.int .i64 size) := blk_cell hq.1 6; have q0 : wq.cell? ⟨h, 0, none⟩ = some (.int .u64 σ.cycle) := blk_cell hq.2 0; have q1 : wq.cell? ⟨h, 1, none⟩ = some (.int .u64 pa) := blk_cell hq.2 1; have q2 : wq.cell? ⟨h, 2, none⟩ = some (.int .i64 size) := blk_cell hq.2 2; have q3 : wq.cell? ⟨h, 3, none⟩ = some (.bool wb) := blk_cell hq.2 3; have q4 : wq.cell? ⟨h, 4, none⟩ = some (.int .u64 dd) := blk_cell hq.2 4; have q5 : wq.cell? ⟨h, 5, none⟩ = some (.bool (er != 0)) := blk_cell hq.2 5; clear hq; first | (go_simp; done) | (go_simp; with_reducible rfl)
              simp only [Act.put, List.setIfInBounds_toArray, List.set_cons_zero, List.set_cons_succ]
              refine wpAnyH_take (i := 18) (oi := ⟨some 128, _, _, _, _, _⟩) (v := ?_) rfl (by kernel_rfl) (by kernel_rfl) (by kernel_rfl) (fun _ _ _ h => h) (Or.inl ⟨by kernel_rfl, ?_⟩) hH ?_
              rotate_left 1
              · intro wq hq; have p0 : wq.cell? ⟨g, 0, none⟩ = some (.int .i64 kd) := blk_cell hq.1 0; have p5 : wq.cell? ⟨g, 5, none⟩ = some (.int .u64 pa) := blk_cell hq.1 5; have p6 : wq.cell? ⟨g, 6, none⟩ = some (.int .i64 size) := blk_cell hq.1 6; have q0 : wq.cell? ⟨h, 0, none⟩ = some (.int .u64 σ.cycle) := blk_cell hq.2 0; have q1 : wq.cell? ⟨h, 1, none⟩ = some (.int .u64 pa) := blk_cell hq.2 1; have q2 : wq.cell? ⟨h, 2, none⟩ = some (.int .i64 size) := blk_cell hq.2 2; have q3 : wq.cell? ⟨h, 3, none⟩ = some (.bool wb) := blk_cell hq.2 3; have q4 : wq.cell? ⟨h, 4, none⟩ = some (.int .u64 dd) := blk_cell hq.2 4; have q5 : wq.cell? ⟨h, 5, none⟩ = some (.bool (er != 0)) := blk_cell hq.2 5; clear hq; first | (go_simp; done) | (go_simp; with_reducible rfl)
              simp only [Act.put, List.setIfInBounds_toArray, List.set_cons_zero, List.set_cons_succ]
              refine wpAnyH_take (i := 19) (oi := ⟨some 129, _, _, _, _, _⟩) (v := ?_) rfl (by kernel_rfl) (by kernel_rfl) (by kernel_rfl) (fun _ _ _ h => h) (Or.inl ⟨by kernel_rfl, ?_⟩) hH ?_
              rotate_left 1
              · intro wq hq; have p0 : wq.cell? ⟨g, 0, none⟩ = some (.int .i64 kd) := blk_cell hq.1 0; have p5 : wq.cell? ⟨g, 5, none⟩ = some (.int .u64 pa) := blk_cell hq.1 5; have p6 : wq.cell? ⟨g, 6, none⟩ = some (.int .i64 size) := blk_cell hq.1 6; have q0 : wq.cell? ⟨h, 0, none⟩ = some (.int .u64 σ.cycle) := blk_cell hq.2 0; have q1 : wq.cell? ⟨h, 1, none⟩ = some (.int .u64 pa) := blk_cell hq.2 1; have q2 : wq.cell? ⟨h, 2, none⟩ = some (.int .i64 size) := blk_cell hq.2 2; have q3 : wq.cell? ⟨h, 3, none⟩ = some (.bool wb) := blk_cell hq.2 3; have q4 : wq.cell? ⟨h, 4, none⟩ = some (.int .u64 dd) := blk_cell hq.2 4; have q5 : wq.cell? ⟨h, 5, none⟩ = some (.bool (er != 0)) := blk_cell hq.2 5; clear hq; first | (go_simp; done) | (go_simp; with_reducible rfl)
              simp only [Act.put, List.setIfInBounds_toArray, List.set_cons_zero, List.set_cons_succ]
              refine wpAnyH_take (i := 20) (oi := ⟨some 130, _, _, _, _, _⟩) (v := ?_) rfl (by kernel_rfl) (by kernel_rfl) (by kernel_rfl) (fun _ _ _ h => h) (Or.inl ⟨by kernel_rfl, ?_⟩) hH ?_
              rotate_left 1
              · intro wq hq; have p0 : wq.cell? ⟨g, 0, none⟩ = some (.int .i64 kd) := blk_cell hq.1 0; have p5 : wq.cell? ⟨g, 5, none⟩ = some (.int .u64 pa) := blk_cell hq.1 5; have p6 : wq.cell? ⟨g, 6, none⟩ = some (.int .i64 size) := blk_cell hq.1 6; have q0 : wq.cell? ⟨h, 0, none⟩ = some (.int .u64 σ.cycle) := blk_cell hq.2 0; have q1 : wq.cell? ⟨h, 1, none⟩ = some (.int .u64 pa) := blk_cell hq.2 1; have q2 : wq.cell? ⟨h, 2, none⟩ = some (.int .i64 size) := blk_cell hq.2 2; have q3 : wq.cell? ⟨h, 3, none⟩ = some (.bool wb) := blk_cell hq.2 3; have q4 : wq.cell? ⟨h, 4, none⟩ = some (.int .u64 dd) := blk_cell hq.2 4; have q5 : wq.cell? ⟨h, 5, none⟩ = some (.bool (er != 0)) := blk_cell hq.2 5; clear hq; first | (go_simp; done) | (go_simp; with_reducible rfl)
              simp only [Act.put, List.setIfInBounds_toArray, List.set_cons_zero, List.set_cons_succ]
              refine wpAnyH_take (i := 21) (oi := ⟨some 131, _, _, _, _, _⟩) (v := ?_) rfl (by kernel_rfl) (by kernel_rfl) (by kernel_rfl) (fun _ _ _ h => h) (Or.inl ⟨by kernel_rfl, ?_⟩) hH ?_
              rotate_left 1
              · intro wq hq; have p0 : wq.cell? ⟨g, 0, none⟩ = some (.int .i64 kd) := blk_cell hq.1 0; have p5 : wq.cell? ⟨g, 5, none⟩ = some (.int .u64 pa) := blk_cell hq.1 5; have p6 : wq.cell? ⟨g, 6, none⟩ = some (.int .i64 size) := blk_cell hq.1 6; have q0 : wq.cell? ⟨h, 0, none⟩ = some (.int .u64 σ.cycle) := blk_cell hq.2 0; have q1 : wq.cell? ⟨h, 1, none⟩ = some (.int .u64 pa) := blk_cell hq.2 1; have q2 : wq.cell? ⟨h, 2, none⟩ = some (.int .i64 size) := blk_cell hq.2 2; have q3 : wq.cell? ⟨h, 3, none⟩ = some (.bool wb) := blk_cell hq.2 3; have q4 : wq.cell? ⟨h, 4, none⟩ = some (.int .u64 dd) := blk_cell hq.2 4; have q5 : wq.cell? ⟨h, 5, none⟩ = some (.bool (er != 0)) := blk_cell hq.2 5; clear hq; first | (go_simp; done) | (go_simp; with_reducible rfl)
              simp only [Act.put, List.setIfInBounds_toArray, List.set_cons_zero, List.set_cons_succ]
              refine wpAnyH_take (i := 22) (oi := ⟨some 132, _, _, _, _, _⟩) (v := ?_) rfl (by kernel_rfl) (by kernel_rfl) (by kernel_rfl) (fun _ _ _ h => h) (Or.inl ⟨by kernel_rfl, ?_⟩) hH ?_
              rotate_left 1
              · intro wq hq; have p0 : wq.cell? ⟨g, 0, none⟩ = some (.int .i64 kd) := blk_cell hq.1 0; have p5 : wq.cell? ⟨g, 5, none⟩ = some (.int .u64 pa) := blk_cell hq.1 5; have p6 : wq.cell? ⟨g, 6, none⟩ = some (.int .i64 size) := blk_cell hq.1 6; have q0 : wq.cell? ⟨h, 0, none⟩ = some (.int .u64 σ.cycle) := blk_cell hq.2 0; have q1 : wq.cell? ⟨h, 1, none⟩ = some (.int .u64 pa) := blk_cell hq.2 1; have q2 : wq.cell? ⟨h, 2, none⟩ = some (.int .i64 size) := blk_cell hq.2 2; have q3 : wq.cell? ⟨h, 3, none⟩ = some (.bool wb) := blk_cell hq.2 3; have q4 : wq.cell? ⟨h, 4, none⟩ = some (.int .u64 dd) := blk_cell hq.2 4; have q5 : wq.cell? ⟨h, 5, none⟩ = some (.bool (er != 0)) := blk_cell hq.2 5; clear hq; first | (go_simp; done) | (go_simp; with_reducible rfl)
              simp only [Act.put, List.setIfInBounds_toArray, List.set_cons_zero, List.set_cons_succ]
              refine wpAnyH_take (i := 23) (oi := ⟨some 133, _, _, _, _, _⟩) (v := ?_) rfl (by kernel_rfl) (by kernel_rfl) (by kernel_rfl) (fun _ _ _ h => h) (Or.inl ⟨by kernel_rfl, ?_⟩) hH ?_
              rotate_left 1
              · intro wq hq; have p0 : wq.cell? ⟨g, 0, none⟩ = some (.int .i64 kd) := blk_cell hq.1 0; have p5 : wq.cell? ⟨g, 5, none⟩ = some (.int .u64 pa) := blk_cell hq.1 5; have p6 : wq.cell? ⟨g, 6, none⟩ = some (.int .i64 size) := blk_cell hq.1 6; have q0 : wq.cell? ⟨h, 0, none⟩ = some (.int .u64 σ.cycle) := blk_cell hq.2 0; have q1 : wq.cell? ⟨h, 1, none⟩ = some (.int .u64 pa) := blk_cell hq.2 1; have q2 : wq.cell? ⟨h, 2, none⟩ = some (.int .i64 size) := blk_cell hq.2 2; have q3 : wq.cell? ⟨h, 3, none⟩ = some (.bool wb) := blk_cell hq.2 3; have q4 : wq.cell? ⟨h, 4, none⟩ = some (.int .u64 dd) := blk_cell hq.2 4; have q5 : wq.cell? ⟨h, 5, none⟩ = some (.bool (er != 0)) := blk_cell hq.2 5; clear hq; first | (go_simp; done) | (go_simp; with_reducible rfl)
              simp only [Act.put, List.setIfInBounds_toArray, List.set_cons_zero, List.set_cons_succ]
              refine wpAnyH_take (i := 24) (oi := ⟨some 134, _, _, _, _, _⟩) (v := ?_) rfl (by kernel_rfl) (by kernel_rfl) (by kernel_rfl) (fun _ _ _ h => h) (Or.inl ⟨by kernel_rfl, ?_⟩) hH ?_
              rotate_left 1
              · intro wq hq; have p0 : wq.cell? ⟨g, 0, none⟩ = some (.int .i64 kd) := blk_cell hq.1 0; have p5 : wq.cell? ⟨g, 5, none⟩ = some (.int .u64 pa) := blk_cell hq.1 5; have p6 : wq.cell? ⟨g, 6, none⟩ = some (.int .i64 size) := blk_cell hq.1 6; have q0 : wq.cell? ⟨h, 0, none⟩ = some (.int .u64 σ.cycle) := blk_cell hq.2 0; have q1 : wq.cell? ⟨h, 1, none⟩ = some (.int .u64 pa) := blk_cell hq.2 1; have q2 : wq.cell? ⟨h, 2, none⟩ = some (.int .i64 size) := blk_cell hq.2 2; have q3 : wq.cell? ⟨h, 3, none⟩ = some (.bool wb) := blk_cell hq.2 3; have q4 : wq.cell? ⟨h, 4, none⟩ = some (.int .u64 dd) := blk_cell hq.2 4; have q5 : wq.cell? ⟨h, 5, none⟩ = some (.bool (er != 0)) := blk_cell hq.2 5; clear hq; first | (go_simp; done) | (go_simp; with_reducible rfl)
              simp only [Act.put, List.setIfInBounds_toArray, List.set_cons_zero, List.set_cons_succ]
              refine wpAnyH_take (i := 25) (oi := ⟨some 135, _, _, _, _, _⟩) (v := ?_) rfl (by kernel_rfl) (by kernel_rfl) (by kernel_rfl) (fun _ _ _ h => h) (Or.inl ⟨by kernel_rfl, ?_⟩) hH ?_
              rotate_left 1
              · intro wq hq; have p0 : wq.cell? ⟨g, 0, none⟩ = some (.int .i64 kd) := blk_cell hq.1 0; have p5 : wq.cell? ⟨g, 5, none⟩ = some (.int .u64 pa) := blk_cell hq.1 5; have p6 : wq.cell? ⟨g, 6, none⟩ = some (.int .i64 size) := blk_cell hq.1 6; have q0 : wq.cell? ⟨h, 0, none⟩ = some (.int .u64 σ.cycle) := blk_cell hq.2 0; have q1 : wq.cell? ⟨h, 1, none⟩ = some (.int .u64 pa) := blk_cell hq.2 1; have q2 : wq.cell? ⟨h, 2, none⟩ = some (.int .i64 size) := blk_cell hq.2 2; have q3 : wq.cell? ⟨h, 3, none⟩ = some (.bool wb) := blk_cell hq.2 3; have q4 : wq.cell? ⟨h, 4, none⟩ = some (.int .u64 dd) := blk_cell hq.2 4; have q5 : wq.cell? ⟨h, 5, none⟩ = some (.bool (er != 0)) := blk_cell hq.2 5; clear hq; first | (go_simp; done) | (go_simp; with_reducible rfl)
              simp only [Act.put, List.setIfInBounds_toArray, List.set_cons_zero, List.set_cons_succ]
              refine wpAnyH_take (i := 26) (oi := ⟨some 136, _, _, _, _, _⟩) (v := ?_) rfl (by kernel_rfl) (by kernel_rfl) (by kernel_rfl) (fun _ _ _ h => h) (Or.inl ⟨by kernel_rfl, ?_⟩) hH ?_
              rotate_left 1
              · intro wq hq; have p0 : wq.cell? ⟨g, 0, none⟩ = some (.int .i64 kd) := blk_cell hq.1 0; have p5 : wq.cell? ⟨g, 5, none⟩ = some (.int .u64 pa) := blk_cell hq.1 5; have p6 : wq.cell? ⟨g, 6, none⟩ = some (.int .i64 size) := blk_cell hq.1 6; have q0 : wq.cell? ⟨h, 0, none⟩ = some (.int .u64 σ.cycle) := blk_cell hq.2 0; have q1 : wq.cell? ⟨h, 1, none⟩ = some (.int .u64 pa) := blk_cell hq.2 1; have q2 : wq.cell? ⟨h, 2, none⟩ = some (.int .i64 size) := blk_cell hq.2 2; have q3 : wq.cell? ⟨h, 3, none⟩ = some (.bool wb) := blk_cell hq.2 3; have q4 : wq.cell? ⟨h, 4, none⟩ = some (.int .u64 dd) := blk_cell hq.2 4; have q5 : wq.cell? ⟨h, 5, none⟩ = some (.bool (er != 0)) := blk_cell hq.2 5; clear hq; first | (go_simp; done) | (go_simp; with_reducible rfl)
              simp only [Act.put, List.setIfInBounds_toArray, List.set_cons_zero, List.set_cons_succ]
              refine wpAnyH_take (i := 27) (oi := ⟨some 137, _, _, _, _, _⟩) (v := ?_) rfl (by kernel_rfl) (by kernel_rfl) (by kernel_rfl) (fun _ _ _ h => h) (Or.inl ⟨by kernel_rfl, ?_⟩) hH ?_
              rotate_left 1
              · intro wq hq; have p0 : wq.cell? ⟨g, 0, none⟩ = some (.int .i64 kd) := blk_cell hq.1 0; have p5 : wq.cell? ⟨g, 5, none⟩ = some (.int .u64 pa) := blk_cell hq.1 5; have p6 : wq.cell? ⟨g, 6, none⟩ = some (.int .i64 size) := blk_cell hq.1 6; have q0 : wq.cell? ⟨h, 0, none⟩ = some (.int .u64 σ.cycle) := blk_cell hq.2 0; have q1 : wq.cell? ⟨h, 1, none⟩ = some (.int .u64 pa) := blk_cell hq.2 1; have q2 : wq.cell? ⟨h, 2, none⟩ = some (.int .i64 size) := blk_cell hq.2 2; have q3 : wq.cell? ⟨h, 3, none⟩ = some (.bool wb) := blk_cell hq.2 3; have q4 : wq.cell? ⟨h, 4, none⟩ = some (.int .u64 dd) := blk_cell hq.2 4; have q5 : wq.cell? ⟨h, 5, none⟩ = some (.bool (er != 0)) := blk_cell hq.2 5; clear hq; first | (go_simp; done) | (go_simp; with_reducible rfl)
              simp only [Act.put, List.setIfInBounds_toArray, List.set_cons_zero, List.set_cons_succ]
              refine wpAnyH_take (i := 28) (oi := ⟨some 138, _, _, _, _, _⟩) (v := ?_) rfl (by kernel_rfl) (by kernel_rfl) (by kernel_rfl) (fun _ _ _ h => h) (Or.inl ⟨by kernel_rfl, ?_⟩) hH ?_
              rotate_left 1
              · intro wq hq; have p0 : wq.cell? ⟨g, 0, none⟩ = some (.int .i64 kd) := blk_cell hq.1 0; have p5 : wq.cell? ⟨g, 5, none⟩ = some (.int .u64 pa) := blk_cell hq.1 5; have p6 : wq.cell? ⟨g, 6, none⟩ = some (.int .i64 size) := blk_cell hq.1 6; have q0 : wq.cell? ⟨h, 0, none⟩ = some (.int .u64 σ.cycle) := blk_cell hq.2 0; have q1 : wq.cell? ⟨h, 1, none⟩ = some (.int .u64 pa) := blk_cell hq.2 1; have q2 : wq.cell? ⟨h, 2, none⟩ = some (.int .i64 size) := blk_cell hq.2 2; have q3 : wq.cell? ⟨h, 3, none⟩ = some (.bool wb) := blk_cell hq.2 3; have q4 : wq.cell? ⟨h, 4, none⟩ = some (.int .u64 dd) := blk_cell hq.2 4; have q5 : wq.cell? ⟨h, 5, none⟩ = some (.bool (er != 0)) := blk_cell hq.2 5; clear hq; first | (go_simp; done) | (go_simp; with_reducible rfl)
              simp only [Act.put, List.setIfInBounds_toArray, List.set_cons_zero, List.set_cons_succ]
              refine wpAnyH_take (i := 29) (oi := ⟨some 139, _, _, _, _, _⟩) (v := ?_) rfl (by kernel_rfl) (by kernel_rfl) (by kernel_rfl) (fun _ _ _ h => h) (Or.inl ⟨by kernel_rfl, ?_⟩) hH ?_
              rotate_left 1
              · intro wq hq; have p0 : wq.cell? ⟨g, 0, none⟩ = some (.int .i64 kd) := blk_cell hq.1 0; have p5 : wq.cell? ⟨g, 5, none⟩ = some (.int .u64 pa) := blk_cell hq.1 5; have p6 : wq.cell? ⟨g, 6, none⟩ = some (.int .i64 size) := blk_cell hq.1 6; have q0 : wq.cell? ⟨h, 0, none⟩ = some (.int .u64 σ.cycle) := blk_cell hq.2 0; have q1 : wq.cell? ⟨h, 1, none⟩ = some (.int .u64 pa) := blk_cell hq.2 1; have q2 : wq.cell? ⟨h, 2, none⟩ = some (.int .i64 size) := blk_cell hq.2 2; have q3 : wq.cell? ⟨h, 3, none⟩ = some (.bool wb) := blk_cell hq.2 3; have q4 : wq.cell? ⟨h, 4, none⟩ = some (.int .u64 dd) := blk_cell hq.2 4; have q5 : wq.cell? ⟨h, 5, none⟩ = some (.bool (er != 0)) := blk_cell hq.2 5; clear hq; first | (go_simp; done) | (go_simp; with_reducible rfl)
              simp only [Act.put, List.setIfInBounds_toArray, List.set_cons_zero, List.set_cons_succ]
              refine wpAnyH_take (i := 30) (oi := ⟨some 140, _, _, _, _, _⟩) (v := ?_) rfl (by kernel_rfl) (by kernel_rfl) (by kernel_rfl) (fun _ _ _ h => h) (Or.inl ⟨by kernel_rfl, ?_⟩) hH ?_
              rotate_left 1
              · intro wq hq; have p0 : wq.cell? ⟨g, 0, none⟩ = some (.int .i64 kd) := blk_cell hq.1 0; have p5 : wq.cell? ⟨g, 5, none⟩ = some (.int .u64 pa) := blk_cell hq.1 5; have p6 : wq.cell? ⟨g, 6, none⟩ = some (.int .i64 size) := blk_cell hq.1 6; have q0 : wq.cell? ⟨h, 0, none⟩ = some (.int .u64 σ.cycle) := blk_cell hq.2 0; have q1 : wq.cell? ⟨h, 1, none⟩ = some (.int .u64 pa) := blk_cell hq.2 1; have q2 : wq.cell? ⟨h, 2, none⟩ = some (.int .i64 size) := blk_cell hq.2 2; have q3 : wq.cell? ⟨h, 3, none⟩ = some (.bool wb) := blk_cell hq.2 3; have q4 : wq.cell? ⟨h, 4, none⟩ = some (.int .u64 dd) := blk_cell hq.2 4; have q5 : wq.cell? ⟨h, 5, none⟩ = some (.bool (er != 0)) := blk_cell hq.2 5; clear hq; first | (go_simp; done) | (go_simp; with_reducible rfl)
              simp only [Act.put, List.setIfInBounds_toArray, List.set_cons_zero, List.set_cons_succ]
              refine wpAnyH_ready (rs := [31]) (by kernel_rfl) (by simp) (AllReadyH.cons (o := ⟨some 141, _, _, _, _, _⟩) rfl (fun K hK => ?_) AllReadyH.nil)
              go_simp
              refine HC.out.mono ?_
              rintro e w7 ⟨rfl, rfl⟩
              go_wp2_with fail
              refine hK.out _ _ hH (fun hH => ?_)
              clear hK K
              try simp only [Act.put, List.setIfInBounds_toArray, List.set_cons_zero, List.set_cons_succ]
              refine wpAnyH_take (i := 32) (oi := ⟨some 142, _, _, _, _, _⟩) (v := ?_) rfl (by kernel_rfl) (by kernel_rfl) (by kernel_rfl) (fun _ _ _ h => h) (Or.inl ⟨by kernel_rfl, ?_⟩) hH ?_
              rotate_left 1
              · intro wq hq; have p0 : wq.cell? ⟨g, 0, none⟩ = some (.int .i64 kd) := blk_cell hq.1 0; have p5 : wq.cell? ⟨g, 5, none⟩ = some (.int .u64 pa) := blk_cell hq.1 5; have p6 : wq.cell? ⟨g, 6, none⟩ = some (.int .i64 size) := blk_cell hq.1 6; have q0 : wq.cell? ⟨h, 0, none⟩ = some (.int .u64 σ.cycle) := blk_cell hq.2 0; have q1 : wq.cell? ⟨h, 1, none⟩ = some (.int .u64 pa) := blk_cell hq.2 1; have q2 : wq.cell? ⟨h, 2, none⟩ = some (.int .i64 size) := blk_cell hq.2 2; have q3 : wq.cell? ⟨h, 3, none⟩ = some (.bool wb) := blk_cell hq.2 3; have q4 : wq.cell? ⟨h, 4, none⟩ = some (.int .u64 dd) := blk_cell hq.2 4; have q5 : wq.cell? ⟨h, 5, none⟩ = some (.bool (er != 0)) := blk_cell hq.2 5; clear hq; first | (go_simp; done) | (go_simp; with_reducible rfl)
              simp only [Act.put, List.setIfInBounds_toArray, List.set_cons_zero, List.set_cons_succ]
              refine wpAnyH_take (i := 33) (oi := ⟨some 143, _, _, _, _, _⟩) (v := ?_) rfl (by kernel_rfl) (by kernel_rfl) (by kernel_rfl) (fun _ _ _ h => h) (Or.inl ⟨by kernel_rfl, ?_⟩) hH ?_
              rotate_left 1
              · intro wq hq; have p0 : wq.cell? ⟨g, 0, none⟩ = some (.int .i64 kd) := blk_cell hq.1 0; have p5 : wq.cell? ⟨g, 5, none⟩ = some (.int .u64 pa) := blk_cell hq.1 5; have p6 : wq.cell? ⟨g, 6, none⟩ = some (.int .i64 size) := blk_cell hq.1 6; have q0 : wq.cell? ⟨h, 0, none⟩ = some (.int .u64 σ.cycle) := blk_cell hq.2 0; have q1 : wq.cell? ⟨h, 1, none⟩ = some (.int .u64 pa) := blk_cell hq.2 1; have q2 : wq.cell? ⟨h, 2, none⟩ = some (.int .i64 size) := blk_cell hq.2 2; have q3 : wq.cell? ⟨h, 3, none⟩ = some (.bool wb) := blk_cell hq.2 3; have q4 : wq.cell? ⟨h, 4, none⟩ = some (.int .u64 dd) := blk_cell hq.2 4; have q5 : wq.cell? ⟨h, 5, none⟩ = some (.bool (er != 0)) := blk_cell hq.2 5; clear hq; first | (go_simp; done) | (go_simp; with_reducible rfl)
              simp only [Act.put, List.setIfInBounds_toArray, List.set_cons_zero, List.set_cons_succ]
              refine wpAnyH_take (i := 34) (oi := ⟨some 144, _, _, _, _, _⟩) (v := ?_) rfl (by kernel_rfl) (by kernel_rfl) (by kernel_rfl) (fun _ _ _ h => h) (Or.inl ⟨by kernel_rfl, ?_⟩) hH ?_
              rotate_left 1
              · intro wq hq; have p0 : wq.cell? ⟨g, 0, none⟩ = some (.int .i64 kd) := blk_cell hq.1 0; have p5 : wq.cell? ⟨g, 5, none⟩ = some (.int .u64 pa) := blk_cell hq.1 5; have p6 : wq.cell? ⟨g, 6, none⟩ = some (.int .i64 size) := blk_cell hq.1 6; have q0 : wq.cell? ⟨h, 0, none⟩ = some (.int .u64 σ.cycle) := blk_cell hq.2 0; have q1 : wq.cell? ⟨h, 1, none⟩ = some (.int .u64 pa) := blk_cell hq.2 1; have q2 : wq.cell? ⟨h, 2, none⟩ = some (.int .i64 size) := blk_cell hq.2 2; have q3 : wq.cell? ⟨h, 3, none⟩ = some (.bool wb) := blk_cell hq.2 3; have q4 : wq.cell? ⟨h, 4, none⟩ = some (.int .u64 dd) := blk_cell hq.2 4; have q5 : wq.cell? ⟨h, 5, none⟩ = some (.bool (er != 0)) := blk_cell hq.2 5; clear hq; first | (go_simp; done) | (go_simp; with_reducible rfl)
              simp only [Act.put, List.setIfInBounds_toArray, List.set_cons_zero, List.set_cons_succ]
              refine wpAnyH_take (i := 35) (oi := ⟨some 145, _, _, _, _, _⟩) (v := ?_) rfl (by kernel_rfl) (by kernel_rfl) (by kernel_rfl) (fun _ _ _ h => h) (Or.inl ⟨by kernel_rfl, ?_⟩) hH ?_
              rotate_left 1
              · intro wq hq; have p0 : wq.cell? ⟨g, 0, none⟩ = some (.int .i64 kd) := blk_cell hq.1 0; have p5 : wq.cell? ⟨g, 5, none⟩ = some (.int .u64 pa) := blk_cell hq.1 5; have p6 : wq.cell? ⟨g, 6, none⟩ = some (.int .i64 size) := blk_cell hq.1 6; have q0 : wq.cell? ⟨h, 0, none⟩ = some (.int .u64 σ.cycle) := blk_cell hq.2 0; have q1 : wq.cell? ⟨h, 1, none⟩ = some (.int .u64 pa) := blk_cell hq.2 1; have q2 : wq.cell? ⟨h, 2, none⟩ = some (.int .i64 size) := blk_cell hq.2 2; have q3 : wq.cell? ⟨h, 3, none⟩ = some (.bool wb) := blk_cell hq.2 3; have q4 : wq.cell? ⟨h, 4, none⟩ = some (.int .u64 dd) := blk_cell hq.2 4; have q5 : wq.cell? ⟨h, 5, none⟩ = some (.bool (er != 0)) := blk_cell hq.2 5; clear hq; first | (go_simp; done) | (go_simp; with_reducible rfl)
              simp only [Act.put, List.setIfInBounds_toArray, List.set_cons_zero, List.set_cons_succ]
              refine wpAnyH_take (i := 36) (oi := ⟨some 146, _, _, _, _, _⟩) (v := ?_) rfl (by kernel_rfl) (by kernel_rfl) (by kernel_rfl) (fun _ _ _ h => h) (Or.inl ⟨by kernel_rfl, ?_⟩) hH ?_
              rotate_left 1
              · intro wq hq; have p0 : wq.cell? ⟨g, 0, none⟩ = some (.int .i64 kd) := blk_cell hq.1 0; have p5 : wq.cell? ⟨g, 5, none⟩ = some (.int .u64 pa) := blk_cell hq.1 5; have p6 : wq.cell? ⟨g, 6, none⟩ = some (.int .i64 size) := blk_cell hq.1 6; have q0 : wq.cell? ⟨h, 0, none⟩ = some (.int .u64 σ.cycle) := blk_cell hq.2 0; have q1 : wq.cell? ⟨h, 1, none⟩ = some (.int .u64 pa) := blk_cell hq.2 1; have q2 : wq.cell? ⟨h, 2, none⟩ = some (.int .i64 size) := blk_cell hq.2 2; have q3 : wq.cell? ⟨h, 3, none⟩ = some (.bool wb) := blk_cell hq.2 3; have q4 : wq.cell? ⟨h, 4, none⟩ = some (.int .u64 dd) := blk_cell hq.2 4; have q5 : wq.cell? ⟨h, 5, none⟩ = some (.bool (er != 0)) := blk_cell hq.2 5; clear hq; first | (go_simp; done) | (go_simp; with_reducible rfl)
              simp only [Act.put, List.setIfInBounds_toArray, List.set_cons_zero, List.set_cons_succ]
              refine wpAnyH_take (i := 37) (oi := ⟨some 147, _, _, _, _, _⟩) (v := ?_) rfl (by kernel_rfl) (by kernel_rfl) (by kernel_rfl) (fun _ _ _ h => h) (Or.inl ⟨by kernel_rfl, ?_⟩) hH ?_
              rotate_left 1
              · intro wq hq; have p0 : wq.cell? ⟨g, 0, none⟩ = some (.int .i64 kd) := blk_cell hq.1 0; have p5 : wq.cell? ⟨g, 5, none⟩ = some (.int .u64 pa) := blk_cell hq.1 5; have p6 : wq.cell? ⟨g, 6, none⟩ = some (.int .i64 size) := blk_cell hq.1 6; have q0 : wq.cell? ⟨h, 0, none⟩ = some (.int .u64 σ.cycle) := blk_cell hq.2 0; have q1 : wq.cell? ⟨h, 1, none⟩ = some (.int .u64 pa) := blk_cell hq.2 1; have q2 : wq.cell? ⟨h, 2, none⟩ = some (.int .i64 size) := blk_cell hq.2 2; have q3 : wq.cell? ⟨h, 3, none⟩ = some (.bool wb) := blk_cell hq.2 3; have q4 : wq.cell? ⟨h, 4, none⟩ = some (.int .u64 dd) := blk_cell hq.2 4; have q5 : wq.cell? ⟨h, 5, none⟩ = some (.bool (er != 0)) := blk_cell hq.2 5; clear hq; first | (go_simp; done) | (go_simp; with_reducible rfl)
              simp only [Act.put, List.setIfInBounds_toArray, List.set_cons_zero, List.set_cons_succ]
              refine wpAnyH_take (i := 38) (oi := ⟨some 148, _, _, _, _, _⟩) (v := ?_) rfl (by kernel_rfl) (by kernel_rfl) (by kernel_rfl) (fun _ _ _ h => h) (Or.inl ⟨by kernel_rfl, ?_⟩) hH ?_
              rotate_left 1
              · intro wq hq; have p0 : wq.cell? ⟨g, 0, none⟩ = some (.int .i64 kd) := blk_cell hq.1 0; have p5 : wq.cell? ⟨g, 5, none⟩ = some (.int .u64 pa) := blk_cell hq.1 5; have p6 : wq.cell? ⟨g, 6, none⟩ = some (.int .i64 size) := blk_cell hq.1 6; have q0 : wq.cell? ⟨h, 0, none⟩ = some (.int .u64 σ.cycle) := blk_cell hq.2 0; have q1 : wq.cell? ⟨h, 1, none⟩ = some (.int .u64 pa) := blk_cell hq.2 1; have q2 : wq.cell? ⟨h, 2, none⟩ = some (.int .i64 size) := blk_cell hq.2 2; have q3 : wq.cell? ⟨h, 3, none⟩ = some (.bool wb) := blk_cell hq.2 3; have q4 : wq.cell? ⟨h, 4, none⟩ = some (.int .u64 dd) := blk_cell hq.2 4; have q5 : wq.cell? ⟨h, 5, none⟩ = some (.bool (er != 0)) := blk_cell hq.2 5; clear hq; first | (go_simp; done) | (go_simp; with_reducible rfl)
              simp only [Act.put, List.setIfInBounds_toArray, List.set_cons_zero, List.set_cons_succ]
              refine wpAnyH_take (i := 39) (oi := ⟨some 149, _, _, _, _, _⟩) (v := ?_) rfl (by kernel_rfl) (by kernel_rfl) (by kernel_rfl) (fun _ _ _ h => h) (Or.inl ⟨by kernel_rfl, ?_⟩) hH ?_
              rotate_left 1
              · intro wq hq; have p0 : wq.cell? ⟨g, 0, none⟩ = some (.int .i64 kd) := blk_cell hq.1 0; have p5 : wq.cell? ⟨g, 5, none⟩ = some (.int .u64 pa) := blk_cell hq.1 5; have p6 : wq.cell? ⟨g, 6, none⟩ = some (.int .i64 size) := blk_cell hq.1 6; have q0 : wq.cell? ⟨h, 0, none⟩ = some (.int .u64 σ.cycle) := blk_cell hq.2 0; have q1 : wq.cell? ⟨h, 1, none⟩ = some (.int .u64 pa) := blk_cell hq.2 1; have q2 : wq.cell? ⟨h, 2, none⟩ = some (.int .i64 size) := blk_cell hq.2 2; have q3 : wq.cell? ⟨h, 3, none⟩ = some (.bool wb) := blk_cell hq.2 3; have q4 : wq.cell? ⟨h, 4, none⟩ = some (.int .u64 dd) := blk_cell hq.2 4; have q5 : wq.cell? ⟨h, 5, none⟩ = some (.bool (er != 0)) := blk_cell hq.2 5; clear hq; first | (go_simp; done) | (go_simp; with_reducible rfl)
              simp only [Act.put, List.setIfInBounds_toArray, List.set_cons_zero, List.set_cons_succ]
              refine wpAnyH_take (i := 40) (oi := ⟨some 150, _, _, _, _, _⟩) (v := ?_) rfl (by kernel_rfl) (by kernel_rfl) (by kernel_rfl) (fun _ _ _ h => h) (Or.inl ⟨by kernel_rfl, ?_⟩) hH ?_
              rotate_left 1
              · intro wq hq; have p0 : wq.cell? ⟨g, 0, none⟩ = some (.int .i64 kd) := blk_cell hq.1 0; have p5 : wq.cell? ⟨g, 5, none⟩ = some (.int .u64 pa) := blk_cell hq.1 5; have p6 : wq.cell? ⟨g, 6, none⟩ = some (.int .i64 size) := blk_cell hq.1 6; have q0 : wq.cell? ⟨h, 0, none⟩ = some (.int .u64 σ.cycle) := blk_cell hq.2 0; have q1 : wq.cell? ⟨h, 1, none⟩ = some (.int .u64 pa) := blk_cell hq.2 1; have q2 : wq.cell? ⟨h, 2, none⟩ = some (.int .i64 size) := blk_cell hq.2 2; have q3 : wq.cell? ⟨h, 3, none⟩ = some (.bool wb) := blk_cell hq.2 3; have q4 : wq.cell? ⟨h, 4, none⟩ = some (.int .u64 dd) := blk_cell hq.2 4; have q5 : wq.cell? ⟨h, 5, none⟩ = some (.bool (er != 0)) := blk_cell hq.2 5; clear hq; first | (go_simp; done) | (go_simp; with_reducible rfl)
              simp only [Act.put, List.setIfInBounds_toArray, List.set_cons_zero, List.set_cons_succ]
              refine wpAnyH_take (i := 41) (oi := ⟨some 151, _, _, _, _, _⟩) (v := ?_) rfl (by kernel_rfl) (by kernel_rfl) (by kernel_rfl) (fun _ _ _ h => h) (Or.inl ⟨by kernel_rfl, ?_⟩) hH ?_
              rotate_left 1
              · intro wq hq; have p0 : wq.cell? ⟨g, 0, none⟩ = some (.int .i64 kd) := blk_cell hq.1 0; have p5 : wq.cell? ⟨g, 5, none⟩ = some (.int .u64 pa) := blk_cell hq.1 5; have p6 : wq.cell? ⟨g, 6, none⟩ = some (.int .i64 size) := blk_cell hq.1 6; have q0 : wq.cell? ⟨h, 0, none⟩ = some (.int .u64 σ.cycle) := blk_cell hq.2 0; have q1 : wq.cell? ⟨h, 1, none⟩ = some (.int .u64 pa) := blk_cell hq.2 1; have q2 : wq.cell? ⟨h, 2, none⟩ = some (.int .i64 size) := blk_cell hq.2 2; have q3 : wq.cell? ⟨h, 3, none⟩ = some (.bool wb) := blk_cell hq.2 3; have q4 : wq.cell? ⟨h, 4, none⟩ = some (.int .u64 dd) := blk_cell hq.2 4; have q5 : wq.cell? ⟨h, 5, none⟩ = some (.bool (er != 0)) := blk_cell hq.2 5; clear hq; first | (go_simp; done) | (go_simp; with_reducible rfl)
              simp only [Act.put, List.setIfInBounds_toArray, List.set_cons_zero, List.set_cons_succ]
              refine wpAnyH_take (i := 42) (oi := ⟨some 152, _, _, _, _, _⟩) (v := ?_) rfl (by kernel_rfl) (by kernel_rfl) (by kernel_rfl) (fun _ _ _ h => h) (Or.inl ⟨by kernel_rfl, ?_⟩) hH ?_
              rotate_left 1
              · intro wq hq; have p0 : wq.cell? ⟨g, 0, none⟩ = some (.int .i64 kd) := blk_cell hq.1 0; have p5 : wq.cell? ⟨g, 5, none⟩ = some (.int .u64 pa) := blk_cell hq.1 5; have p6 : wq.cell? ⟨g, 6, none⟩ = some (.int .i64 size) := blk_cell hq.1 6; have q0 : wq.cell? ⟨h, 0, none⟩ = some (.int .u64 σ.cycle) := blk_cell hq.2 0; have q1 : wq.cell? ⟨h, 1, none⟩ = some (.int .u64 pa) := blk_cell hq.2 1; have q2 : wq.cell? ⟨h, 2, none⟩ = some (.int .i64 size) := blk_cell hq.2 2; have q3 : wq.cell? ⟨h, 3, none⟩ = some (.bool wb) := blk_cell hq.2 3; have q4 : wq.cell? ⟨h, 4, none⟩ = some (.int .u64 dd) := blk_cell hq.2 4; have q5 : wq.cell? ⟨h, 5, none⟩ = some (.bool (er != 0)) := blk_cell hq.2 5; clear hq; first | (go_simp; done) | (go_simp; with_reducible rfl)
              simp only [Act.put, List.setIfInBounds_toArray, List.set_cons_zero, List.set_cons_succ]
              refine wpAnyH_take (i := 43) (oi := ⟨some 153, _, _, _, _, _⟩) (v := ?_) rfl (by kernel_rfl) (by kernel_rfl) (by kernel_rfl) (fun _ _ _ h => h) (Or.inl ⟨by kernel_rfl, ?_⟩) hH ?_
              rotate_left 1
              · intro wq hq; have p0 : wq.cell? ⟨g, 0, none⟩ = some (.int .i64 kd) := blk_cell hq.1 0; have p5 : wq.cell? ⟨g, 5, none⟩ = some (.int .u64 pa) := blk_cell hq.1 5; have p6 : wq.cell? ⟨g, 6, none⟩ = some (.int .i64 size) := blk_cell hq.1 6; have q0 : wq.cell? ⟨h, 0, none⟩ = some (.int .u64 σ.cycle) := blk_cell hq.2 0; have q1 : wq.cell? ⟨h, 1, none⟩ = some (.int .u64 pa) := blk_cell hq.2 1; have q2 : wq.cell? ⟨h, 2, none⟩ = some (.int .i64 size) := blk_cell hq.2 2; have q3 : wq.cell? ⟨h, 3, none⟩ = some (.bool wb) := blk_cell hq.2 3; have q4 : wq.cell? ⟨h, 4, none⟩ = some (.int .u64 dd) := blk_cell hq.2 4; have q5 : wq.cell? ⟨h, 5, none⟩ = some (.bool (er != 0)) := blk_cell hq.2 5; clear hq; first | (go_simp; done) | (go_simp; with_reducible rfl)
              simp only [Act.put, List.setIfInBounds_toArray, List.set_cons_zero, List.set_cons_succ]
              refine wpAnyH_done (by kernel_rfl) ?_ _
              clear hH
              clear HG HH HC HB1 HP HV HLL HSS HN HNK HSK
              go_wp2_with fail
              exact ⟨⟨k + 1, by omega, by omega, by rw [Int.natCast_succ, Int.natCast_succ] at H7; exact H7.out⟩, by simp [intOf]; omega⟩
            · have hlen : σ'.log.length = n := by rw [hd]; exact HN.out
              rw [hlen]
              have H7 : Hid (OnceK w (k + 1) βs βt (.int .i64 ((n : Nat) : Int)) (.int .i64 ((k + 1 : Nat) : Int)) w5) :=
                ⟨σ', n, rfl, rfl, H5.out.forget H5.out.keeps.size, hlen, by have := HNK.out; omega, by have := HNO.out.sent; have := HSK.out; omega⟩
              have HD : Hid (er = 0 → (pa : Int) < 2147483648 → (pa : Int) < 33554432) := fun a b => by have := hd2 a (by omega); omega
              clear H5 HNO HL4 HR HB1 HP HV HLL HSS HN HNK HSK hd hd2
              generalize ((pa : Nat) : Int) = X at *
              by_cases he : er = 0
              · subst he
                by_cases hx : X < 2147483648
                · have hx2 : X < 33554432 := HD.out rfl hx
                  clear HD
                  go_wp2_with fail
                  exact ⟨⟨k + 1, by omega, by omega, by rw [Int.natCast_succ] at H7; exact H7.out⟩, by simp [intOf]; omega⟩
                · clear HD
                  have hx3 : (X < 2147483648) = False := eq_false hx
                  clear hx
                  go_wp2_with fail
                  exact ⟨⟨k + 1, by omega, by omega, by rw [Int.natCast_succ] at H7; exact H7.out⟩, by simp [intOf]; omega⟩
              · have he : (er == 0) = false := by simpa using he
                go_wp2_with fail
                exact ⟨⟨k + 1, by omega, by omega, by rw [Int.natCast_succ] at H7; exact H7.out⟩, by simp [intOf]; omega⟩
        · have e1 : (kd == 1) = false := by simp; omega
          have e2 : (kd == 2) = false := by simp; omega
          clear hkd
          have HT0 : Hid True := trivial
          go_wp2_with fail
          clear c0 c1 c2 c3 c4 c5 c6 c7 c8 c9 c10 c11 c12 c13 c14 c15
          generalize (wr.alloc (.cells #[.int .i64 kd, .int .i64 l, .int .i64 rx, .int .i64 q2, .int .i64 q3, .int .u64 pa, .int .i64 size, .int .u64 v, .int .i64 port, .int .i64 id, .int .i64 ak, .int .u64 aa, .int .i64 beats, .slice da dl dc, .slice sa sl sc, .int .i64 asz] 47)) = wa at *
          refine (HT1.out.tick l rx q2 q3).mono ?_
          rintro e w5 ⟨rfl, h5⟩
          have H5 := Lib.hid h5
          have hb5 := h5.blk HB1.out
          have k1 : w5.cell? ⟨wr.heap.size, 1, none⟩ = some (.int .i64 l) := blk_cell hb5 1
          have k2 : w5.cell? ⟨wr.heap.size, 2, none⟩ = some (.int .i64 rx) := blk_cell hb5 2
          have k3 : w5.cell? ⟨wr.heap.size, 3, none⟩ = some (.int .i64 q2) := blk_cell hb5 3
          have k4 : w5.cell? ⟨wr.heap.size, 4, none⟩ = some (.int .i64 q3) := blk_cell hb5 4
          clear h5 hb5 HT1
          go_wp2_with fail
          refine (H5.out.swap.tick l rx q2 q3).mono ?_
          rintro e w6 ⟨rfl, h6⟩
          have H6 : Hid (OnceK w (k + 1) βs βt (.int .i64 ((n : Nat) : Int)) (.int .i64 ((k + 1 : Nat) : Int)) w6) := by
            have hs := σ.tick_same l rx
            refine ⟨_, n, rfl, rfl, h6.swap.forget (h6.keeps.size), by rw [hs.1]; exact HN.out, by have := HNK.out; omega, by rw [hs.2.1]; have := HSK.out; omega⟩
          clear h6 H5 HB1 HN HNK HSK HLL HSS HP HV
          go_wp2_with fail
          exact ⟨⟨k + 1, by omega, by omega, by rw [Int.natCast_succ] at H6; exact H6.out⟩, by simp [intOf]; omega⟩
      · as_aux_lemma =>
        obtain ⟨RB, SB⟩ : Hid (∀ x ∈ σ.u.rx σ.u.n, 0 ≤ x ∧ x ≤ 255) ∧ Hid (∀ x ∈ σ.u.sent, 0 ≤ x ∧ x ≤ 255) := by
          obtain ⟨lg, sn, SR, I, _⟩ := HT0.out.left
          refine ⟨fun x hx => ?_, I.ok.u.sent⟩
          simp only [UartS.rx, List.mem_map] at hx
          obtain ⟨j, _, rfl⟩ := hx
          have := I.ok.u.ring ((σ.u.head + j) % 8)
          omega
        have HLL : Hid (σ.log.length < 1000000) := by have := HN.out; have := HNK.out; show _ < _; omega
        have HSS : Hid (σ.u.sent.length < 1000000) := by have := HSK.out; show _ < _; omega
        clear HN HNK HSK HLE HZ
        go_wp2_with fail
        refine (HT0.out.devices HSS.out).mono ?_
        rintro e w5 ⟨ra, rc, ta, tc, rfl, hr5, hb5⟩
        have H5 := Lib.hid (HT0.out.below hb5)
        have A5 : Hid (IsB w5 ra σ.u.n (σ.u.rx σ.u.n) ∧ IsB w5 ta σ.u.sent.length σ.u.sent) := ⟨isB_own hr5.1 (UartS.rx_len _ _) RB.out, isB_own hr5.2.1 rfl SB.out⟩
        clear hr5 hb5 HT0
        go_wp2_with fail
        refine (H5.out.swap.devices HSS.out).mono ?_
        rintro e w6 ⟨ra2, rc2, ta2, tc2, rfl, hr6, hb6⟩
        have H6 := Lib.hid (H5.out.below hb6)
        have A6 : Hid (IsB w6 ra σ.u.n (σ.u.rx σ.u.n) ∧ IsB w6 ta σ.u.sent.length σ.u.sent) := ⟨isB_below A5.out.1 hb6, isB_below A5.out.2 hb6⟩
        have B6 : Hid (IsB w6 ra2 σ.u.n (σ.u.rx σ.u.n) ∧ IsB w6 ta2 σ.u.sent.length σ.u.sent) := ⟨isB_own hr6.1 (UartS.rx_len _ _) RB.out, isB_own hr6.2.1 rfl SB.out⟩
        have HDV := Lib.hid (same_devices2 (σ.dev ra rc ta tc) ra2 rc2 ta2 tc2 w6 _ _ A6.out.1 A6.out.2 B6.out.1 B6.out.2)
        clear hr6 hb6 H5 A5 A6 B6 RB SB
        go_wp2_with fail
        refine HDV.out.mono ?_
        rintro e w7 ⟨rfl, hb7⟩
        have H7 := Lib.hid (H6.out.below hb7)
        clear hb7 H6 HDV
        go_wp2_with fail
        refine (H7.out.log HLL.out).mono ?_
        rintro e w8 ⟨lv, rfl, ho8, hb8⟩
        obtain ⟨la, lc, rfl⟩ := log_form ho8
        have H8 := Lib.hid (H7.out.below hb8)
        have A8 := Lib.hid (accRow_own ho8 rfl)
        clear ho8 hb8 H7
        go_wp2_with fail
        refine (H8.out.swap.log HLL.out).mono ?_
        rintro e w9 ⟨lv, rfl, ho9, hb9⟩
        obtain ⟨la2, lc2, rfl⟩ := log_form ho9
        have H9 := Lib.hid (H8.out.below hb9)
        have A9 := Lib.hid (A8.out.turned hb9)
        have B9 := Lib.hid (accRow_own ho9 rfl)
        clear ho9 hb9 H8 A8
        go_wp2_with fail
        refine (plain_acc la la2 σ.log _ lc lc2 rfl w9 (by have := HLL.out; omega) A9.out B9.out).mono ?_
        rintro e w10 ⟨rfl, hb10⟩
        have H10 := Lib.hid (H9.out.below hb10)
        clear hb10 H9 A9 B9
        go_wp2_with fail
        refine H10.out.lines.mono ?_
        rintro e w11 ⟨rfl, hb11⟩
        have H11 := Lib.hid (H10.out.below hb11)
        clear hb11 H10
        go_wp2_with fail
        refine H11.out.swap.lines.mono ?_
        rintro e w12 ⟨rfl, hb12⟩
        have H12 := Lib.hid (H11.out.below hb12).keeps
        clear hb12 H11 HLL HSS
        go_wp2_with fail
        go_ret
        exact ⟨rfl, H12.out⟩
    · as_aux_lemma =>
      obtain ⟨RB, SB⟩ : Hid (∀ x ∈ σ.u.rx σ.u.n, 0 ≤ x ∧ x ≤ 255) ∧ Hid (∀ x ∈ σ.u.sent, 0 ≤ x ∧ x ≤ 255) := by
        obtain ⟨lg, sn, SR, I, _⟩ := HT0.out.left
        refine ⟨fun x hx => ?_, I.ok.u.sent⟩
        simp only [UartS.rx, List.mem_map] at hx
        obtain ⟨j, _, rfl⟩ := hx
        have := I.ok.u.ring ((σ.u.head + j) % 8)
        omega
      have HLL : Hid (σ.log.length < 1000000) := by have := HN.out; have := HNK.out; show _ < _; omega
      have HSS : Hid (σ.u.sent.length < 1000000) := by have := HSK.out; show _ < _; omega
      clear HN HNK HSK HLE HZ
      go_wp2_with fail
      refine (HT0.out.devices HSS.out).mono ?_
      rintro e w5 ⟨ra, rc, ta, tc, rfl, hr5, hb5⟩
      have H5 := Lib.hid (HT0.out.below hb5)
      have A5 : Hid (IsB w5 ra σ.u.n (σ.u.rx σ.u.n) ∧ IsB w5 ta σ.u.sent.length σ.u.sent) := ⟨isB_own hr5.1 (UartS.rx_len _ _) RB.out, isB_own hr5.2.1 rfl SB.out⟩
      clear hr5 hb5 HT0
      go_wp2_with fail
      refine (H5.out.swap.devices HSS.out).mono ?_
      rintro e w6 ⟨ra2, rc2, ta2, tc2, rfl, hr6, hb6⟩
      have H6 := Lib.hid (H5.out.below hb6)
      have A6 : Hid (IsB w6 ra σ.u.n (σ.u.rx σ.u.n) ∧ IsB w6 ta σ.u.sent.length σ.u.sent) := ⟨isB_below A5.out.1 hb6, isB_below A5.out.2 hb6⟩
      have B6 : Hid (IsB w6 ra2 σ.u.n (σ.u.rx σ.u.n) ∧ IsB w6 ta2 σ.u.sent.length σ.u.sent) := ⟨isB_own hr6.1 (UartS.rx_len _ _) RB.out, isB_own hr6.2.1 rfl SB.out⟩
      have HDV := Lib.hid (same_devices2 (σ.dev ra rc ta tc) ra2 rc2 ta2 tc2 w6 _ _ A6.out.1 A6.out.2 B6.out.1 B6.out.2)
      clear hr6 hb6 H5 A5 A6 B6 RB SB
      go_wp2_with fail
      refine HDV.out.mono ?_
      rintro e w7 ⟨rfl, hb7⟩
      have H7 := Lib.hid (H6.out.below hb7)
      clear hb7 H6 HDV
      go_wp2_with fail
      refine (H7.out.log HLL.out).mono ?_
      rintro e w8 ⟨lv, rfl, ho8, hb8⟩
      obtain ⟨la, lc, rfl⟩ := log_form ho8
      have H8 := Lib.hid (H7.out.below hb8)
      have A8 := Lib.hid (accRow_own ho8 rfl)
      clear ho8 hb8 H7
      go_wp2_with fail
      refine (H8.out.swap.log HLL.out).mono ?_
      rintro e w9 ⟨lv, rfl, ho9, hb9⟩
      obtain ⟨la2, lc2, rfl⟩ := log_form ho9
      have H9 := Lib.hid (H8.out.below hb9)
      have A9 := Lib.hid (A8.out.turned hb9)
      have B9 := Lib.hid (accRow_own ho9 rfl)
      clear ho9 hb9 H8 A8
      go_wp2_with fail
      refine (plain_acc la la2 σ.log _ lc lc2 rfl w9 (by have := HLL.out; omega) A9.out B9.out).mono ?_
      rintro e w10 ⟨rfl, hb10⟩
      have H10 := Lib.hid (H9.out.below hb10)
      clear hb10 H9 A9 B9
      go_wp2_with fail
      refine H10.out.lines.mono ?_
      rintro e w11 ⟨rfl, hb11⟩
      have H11 := Lib.hid (H10.out.below hb11)
      clear hb11 H10
      go_wp2_with fail
      refine H11.out.swap.lines.mono ?_
      rintro e w12 ⟨rfl, hb12⟩
      have H12 := Lib.hid (H11.out.below hb12).keeps
      clear hb12 H11 HLL HSS
      go_wp2_with fail
      go_ret
      exact ⟨rfl, H12.out⟩
theorem once_row (W : World) (a : Option Addr) (len cap : Nat) (z : Nat → SocOp) (hle : len ≤ cap) (hm : cap ≤ 9223372036854775807) (hz : SocOps W a cap z) : Calls Try.prog 5 #[.slice a len cap] W fun e w' => e = .returned (.bool true) ∧ Below W.heap.size W w' := once_law a len cap z hle hm W hz
end Go.Proofs.Ytefcdbpmpnmkjaa
end
