/- Contracts of ram.New, Word, Put. No condition. -/
import Derived.Test.YtebdbbpefmgooaaRam5
import Derived.StillTailTactics
import Derived.BigRegion
import Derived.Deep.RegionWith
import Derived.Deep.RegionHeld3
import Derived.Deep.QuietTactic
import Derived.BigQuiet
import Derived.Deep.LoopGhost
import Derived.Deep.DeepCutAuto
import Derived.Deep.DeepFit
import Derived.Deep.DeepMust
import Derived.Handy
set_option linter.unusedVariables false
set_option linter.unusedSimpArgs false
namespace Go.Proofs.Ytebdbbpefmgooaa
open Go.RowKit
/-- a memory that is all 0, in new blocks -/
def NewRam (w : World) (n : Nat) (e : Ending) (w' : World) : Prop := ∃ b S, e = .returned (.tuple #[.pointer (some ⟨b, 0, none⟩), .int .i64 0]) ∧ RamAt w' b n (fun _ => 0) S ∧ (∀ g, S g → w.heap.size ≤ g) ∧ w.heap.size ≤ b ∧ Below w.heap.size w w'
theorem new_ram (w w' : World) (n : Nat) (h4 : 4 ≤ n) (h256 : n ≤ 256) (hw : w' = (w.alloc (.map #[] 0)).alloc (.cells #[.int .i64 n, .map (some w.heap.size)] 114)) : RamAt w' (w.heap.size + 1) n (fun _ => 0) (RamOwn w.heap.size fun _ => none) := by
  subst hw
  refine ⟨w.heap.size, fun _ => none, ⟨?_, h4, h256, ⟨.map [], (PgMap.new w).kept ?_⟩, (fun k g h => by cases h), fun _ _ _ _ => rfl, (fun k k' g h => by cases h), fun _ => by omega, (fun k h => by cases h)⟩, rfl⟩
  · have := blk_alloc (w.alloc (.map #[] 0)) (.cells #[.int .i64 n, .map (some w.heap.size)] 114)
    simpa using this
  · exact blk_alloc_old _ _ _ (by simp)
set_option maxRecDepth 100000 in
set_option maxHeartbeats 1000000 in
theorem ram_new (n : Nat) (h4 : 4 ≤ n) (h256 : n ≤ 256) (w : World) : Calls Try.prog 40 #[.int .i64 n] w (NewRam w n) := by
  have h1 : (4 : Int) ≤ n := by omega
  have h2 : (n : Int) ≤ 256 := by omega
  have HN := Lib.hid (new_ram w _ n h4 h256 rfl)
  have HB := Lib.hid (((Below.refl w.heap.size w).alloc (Nat.le_refl _) (.map #[] 0)).alloc (by simp) (.cells #[.int .i64 n, .map (some w.heap.size)] 114))
  clear h4 h256
  have hmm := @run_makeMap Try.prog
  go_enter Try.func40, Try.ntmps40
  go_wp2_with fail
  clear hmm
  go_ret2
  exact ⟨w.heap.size + 1, _, rfl, HN.out, (by rintro g (rfl | ⟨k, hk⟩); exact Nat.le_refl _; cases hk), by omega, HB.out⟩
set_option maxRecDepth 100000 in
set_option maxHeartbeats 1000000 in
theorem ram_new_arg (n : Int) (h : n < 4 ∨ 256 < n) (w : World) : Calls Try.prog 40 #[.int .i64 n] w fun e w' => e = .returned (.tuple #[.pointer none, .int .i64 1]) ∧ w = w' := by
  by_cases h4 : n < 4
  · clear h
    go_enter Try.func40, Try.ntmps40
    go_wp2_with fail
    go_ret2
    exact ⟨rfl, rfl⟩
  · have h256 : 256 < n := by omega
    have h4 : 4 ≤ n := by omega
    clear h
    go_enter Try.func40, Try.ntmps40
    go_wp2_with fail
    go_ret2
    exact ⟨rfl, rfl⟩
theorem mayErr_0 {n : Nat} {x k : Int} (h : mayErr n x k = 0) : (k = 1 ∨ k = 2 ∨ k = 4 ∨ k = 8) ∧ x % k = 0 ∧ ramAll n x k = true := by
  unfold mayErr at h
  split at h
  · rename_i hk
    split at h
    · rename_i hx
      split at h
      · rename_i ha
        exact ⟨hk, hx, ha⟩
      · omega
    · omega
  · omega
/-- a number of an error that is none, or the word -/
def WordOr (w : World) (e : Ending) (w' : World) (er : Int) (v : Nat) : Prop := e = .returned (.tuple #[.int .u64 v, .int .i64 er]) ∧ Below w.heap.size w w'
set_option maxRecDepth 100000 in
set_option maxHeartbeats 1000000 in
theorem ram_word_nil (x k : Int) (w : World) : Calls Try.prog 43 #[.pointer none, .int .u64 x, .int .i64 k] w (WordOr w · · 2 0) := by
  go_enter Try.func43, Try.ntmps43
  go_wp2_with fail
  refine (ram_may_nil x k _).mono ?_
  rintro e w1 ⟨rfl, hb⟩
  have HB := Lib.hid hb
  clear hb
  go_wp2_with fail
  go_ret2
  exact ⟨rfl, HB.out⟩
set_option maxRecDepth 100000 in
set_option maxHeartbeats 1000000 in
theorem ram_word_err {w : World} {b n : Nat} {ct : Nat → Nat} {S : Nat → Prop} (h : RamAt w b n ct S) (x : Int) (x0 : 0 ≤ x) (x1 : x < 18446744073709551616) (k : Int) (hm : mayErr n x k ≠ 0) :
    Calls Try.prog 43 #[.pointer (some ⟨b, 0, none⟩), .int .u64 x, .int .i64 k] w (WordOr w · · (mayErr n x k) 0) := by
  have HM := Lib.hid (ram_may h x x0 x1 k)
  generalize mayErr n x k = E at *
  have he : (E != 0) = true := by simpa using hm
  clear h x0 x1 hm
  go_enter Try.func43, Try.ntmps43
  go_wp2_with fail
  refine HM.out.mono ?_
  rintro e w1 ⟨rfl, hb⟩
  have HB := Lib.hid hb
  clear hb
  go_wp2_with fail
  go_ret2
  exact ⟨rfl, HB.out⟩
/-- the word of so many bytes from off on -/
def wordAt (ct : Nat → Nat) (off k : Nat) : Nat := wordN (fun i => ct (off + i)) k
set_option maxRecDepth 100000 in
set_option maxHeartbeats 1000000 in
theorem ram_word_ok {w : World} {b n : Nat} {ct : Nat → Nat} {S : Nat → Prop} (h : RamAt w b n ct S) (x : Int) (x0 : 0 ≤ x) (x1 : x < 18446744073709551616) (k : Int) (hm : mayErr n x k = 0) :
    Calls Try.prog 43 #[.pointer (some ⟨b, 0, none⟩), .int .u64 x, .int .i64 k] w (WordOr w · · 0 (wordAt ct (x - 2147483648).toNat k.toNat)) := by
  have HM := Lib.hid (ram_may h x x0 x1 k)
  obtain ⟨hk, _, ha⟩ := mayErr_0 hm
  rw [hm] at HM
  obtain ⟨m, rfl⟩ := Int.eq_ofNat_of_zero_le (show 0 ≤ k by omega)
  have hm8 : (m : Int) ≤ 8 := by omega
  have HR := Lib.hid (fun wq (hq : RamAt wq b n ct S) => ram_read_ok hq x x0 x1 m ha)
  have H := Lib.hid h
  have HBD := Lib.hid (bytesAt_bd h.bd (x - 2147483648).toNat m)
  have HWD : Hid (wordN (fun i => ((bytesAt ct (x - 2147483648).toNat m).getD i 0).toNat) (min m 8) = wordAt ct (x - 2147483648).toNat m) := by
    show _ = _
    rw [show min m 8 = m by omega]
    refine wordN_congr m fun i hi => ?_
    rw [bytesAt_getD _ _ _ _ hi]
    simp
  clear h hk ha x0 x1 hm
  rw [Int.toNat_natCast]
  generalize bytesAt ct (x - 2147483648).toNat m = L at *
  generalize wordAt ct (x - 2147483648).toNat m = V at *
  go_enter Try.func43, Try.ntmps43
  go_wp2_with fail
  refine HM.out.mono ?_
  rintro e w1 ⟨rfl, hb⟩
  have HB := Lib.hid hb
  clear hb
  go_wp2_with fail
  refine (HR.out _ (H.out.below HB.out)).mono ?_
  rintro e w2 ⟨v, rfl, hown, hb⟩
  obtain ⟨a, c, rfl, hib⟩ := bytes_own hown HBD.out
  have HB2 : Hid (Below w.heap.size w w2) := below_then HB.out hb HB.out.size
  have HIB := Lib.hid hib
  clear hb hown hib
  go_wp2_with fail
  refine (bits_word a m c L _ HIB.out (by omega)).mono ?_
  rintro e w3 ⟨rfl, rfl⟩
  rw [HWD.out]
  go_wp2_with fail
  go_ret2
  exact ⟨rfl, HB2.out⟩
set_option maxRecDepth 100000 in
set_option maxHeartbeats 1000000 in
theorem ram_put_nil (x k v : Int) (w : World) : Calls Try.prog 44 #[.pointer none, .int .u64 x, .int .i64 k, .int .u64 v] w (ErrNo w 2) := by
  go_enter Try.func44, Try.ntmps44
  go_wp2_with fail
  refine (ram_may_nil x k _).mono ?_
  rintro e w1 ⟨rfl, hb⟩
  have HB := Lib.hid hb
  clear hb
  go_wp2_with fail
  go_ret
  exact ⟨rfl, HB.out⟩
set_option maxRecDepth 100000 in
set_option maxHeartbeats 1000000 in
theorem ram_put_err {w : World} {b n : Nat} {ct : Nat → Nat} {S : Nat → Prop} (h : RamAt w b n ct S) (x : Int) (x0 : 0 ≤ x) (x1 : x < 18446744073709551616) (k v : Int) (hm : mayErr n x k ≠ 0) :
    Calls Try.prog 44 #[.pointer (some ⟨b, 0, none⟩), .int .u64 x, .int .i64 k, .int .u64 v] w (ErrNo w (mayErr n x k)) := by
  have HM := Lib.hid (ram_may h x x0 x1 k)
  generalize mayErr n x k = E at *
  have he : (E != 0) = true := by simpa using hm
  clear h x0 x1 hm
  go_enter Try.func44, Try.ntmps44
  go_wp2_with fail
  refine HM.out.mono ?_
  rintro e w1 ⟨rfl, hb⟩
  have HB := Lib.hid hb
  clear hb
  go_wp2_with fail
  go_ret
  exact ⟨rfl, HB.out⟩
/-- a number's bytes put in -/
def putWord (ct : Nat → Nat) (off k v : Nat) : Nat → Nat := fun i => if off ≤ i ∧ i < off + k then v / 2 ^ (8 * (i - off)) % 256 else ct i
theorem numBytes_getD (v k i : Nat) (h : i < k) : (numBytes v k).getD i 0 = ((v / 2 ^ (8 * i) % 256 : Nat) : Int) := by simp [numBytes, List.getD, h]
theorem putTo_word (ct : Nat → Nat) (off k v : Nat) : putTo ct off (fun i => ((numBytes v k).getD i 0).toNat) (fun _ => true) k = putWord ct off k v := by
  funext i
  rw [putTo_at]
  unfold putWord
  by_cases hi : off ≤ i ∧ i < off + k
  · rw [if_pos ⟨hi.1, hi.2, rfl⟩, if_pos hi, numBytes_getD _ _ _ (by omega)]
    omega
  · rw [if_neg (fun h => hi ⟨h.1, h.2.1⟩), if_neg hi]
set_option maxRecDepth 100000 in
set_option maxHeartbeats 1000000 in
theorem ram_put_ok {w : World} {b n : Nat} {ct : Nat → Nat} {S : Nat → Prop} (h : RamAt w b n ct S) (x : Int) (x0 : 0 ≤ x) (x1 : x < 18446744073709551616) (k : Int) (v : Nat) (hm : mayErr n x k = 0) :
    Calls Try.prog 44 #[.pointer (some ⟨b, 0, none⟩), .int .u64 x, .int .i64 k, .int .u64 v] w fun e w' => e = .returned (.int .i64 0) ∧ RamTo w w' b n (putWord ct (x - 2147483648).toNat k.toNat v) S := by
  have HM := Lib.hid (ram_may h x x0 x1 k)
  obtain ⟨hk, _, ha⟩ := mayErr_0 hm
  rw [hm] at HM
  obtain ⟨m, rfl⟩ := Int.eq_ofNat_of_zero_le (show 0 ≤ k by omega)
  have hm8 : (m : Int) ≤ 8 := by omega
  have H := Lib.hid h
  have HA := Lib.hid ha
  have HX := Lib.hid (And.intro x0 x1)
  have HLT := Lib.hid (fun g (hg : S g) => h.lt hg)
  clear h hk ha x0 x1 hm
  rw [Int.toNat_natCast]
  go_enter Try.func44, Try.ntmps44
  go_wp2_with fail
  refine HM.out.mono ?_
  rintro e w1 ⟨rfl, hb⟩
  have HB := Lib.hid hb
  clear hb
  go_wp2_with fail
  refine (bits_bytes v m hm8 _).mono ?_
  rintro e w2 ⟨s, rfl, hown, hb⟩
  obtain ⟨a, c, rfl, hib⟩ := bytes_own hown (numBytes_bd _ _)
  have HAP : Hid (Apart S a) := by
    rintro b' o s rfl hS
    have h1 := HLT.out b' hS
    have h2 := HB.out.size
    rcases hown.2 with ⟨h, _⟩ | ⟨g, cap, cur, h, hg, _⟩
    · cases h
    · injection h with h
      injection h with h
      injection h with h
      omega
  have HB2 : Hid (Below w.heap.size w w2) := below_then HB.out hb HB.out.size
  have HIB := Lib.hid hib
  clear hb hown hib
  go_wp2_with fail
  refine (ram_write_ok (H.out.below HB2.out) x HX.out.1 HX.out.2 a m c HA.out _ HIB.out HAP.out).mono ?_
  rintro e w3 ⟨rfl, hh⟩
  rw [putTo_word] at hh
  have HF := Lib.hid (hh.from_below HB2.out)
  clear hh
  go_wp2_with fail
  go_ret
  exact ⟨rfl, HF.out⟩
end Go.Proofs.Ytebdbbpefmgooaa
