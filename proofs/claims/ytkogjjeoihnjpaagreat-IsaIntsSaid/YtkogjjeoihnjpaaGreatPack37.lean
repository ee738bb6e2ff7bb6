/- isa.New, its Hart; the reference's May of a hart that may be. No condition. A machine's Hart; the reference's May of a hart that may be: true. No condition. -/
import Derived.Test.YtkogjjeoihnjpaaGreatPack35
import Derived.Test.YtkogjjeoihnjpaaGreatPack36
import Derived.Deep.MidRow
section
set_option linter.unusedVariables false
set_option linter.unusedSimpArgs false
namespace Go.Proofs.YtkogjjeoihnjpaaGreat
open Go.RowKit Sx
set_option maxRecDepth 100000
/-- the hart at its beginning, as numbers -/
def hart0L : List Int := [4096, 3] ++ List.replicate 62 0 ++ [0, 0]
theorem hart0_is : hart0 = (cksV hartC hart0L).toArray := by kernel_rfl
theorem hart0_list : hart0.toList = cksV hartC hart0L := by rw [hart0_is]
def inBb : List (Int × Int) → List Int → Bool
  | [], [] => true
  | (l, h) :: rs, n :: ns => decide (l ≤ n) && decide (n ≤ h) && inBb rs ns
  | _, _ => false
theorem inBb_ok : ∀ {rs : List (Int × Int)} {l : List Int}, inBb rs l = true → InB rs l
  | [], [], _ => ⟨rfl, fun j r n h => by simp at h⟩
  | (a, b) :: rs, n :: ns, h => by
    simp only [inBb, Bool.and_eq_true, decide_eq_true_eq] at h
    obtain ⟨m1, m2⟩ := inBb_ok h.2
    refine ⟨by simp [m1], fun j r k hj hk => ?_⟩
    cases j with
    | zero => simp at hj hk; subst hj; subst hk; exact h.1
    | succ j => exact m2 j r k (by simpa using hj) (by simpa using hk)
  | [], _ :: _, h => nomatch h
  | _ :: _, [], h => nomatch h
theorem hart0_in : InB hartR hart0L := inBb_ok (by kernel_rfl)
theorem hart0_may : KsOk (env0 hart0L) mayK := fun q hq => by
  have : mayK.all (fun q => q.1.tr (env0 hart0L) == q.2) = true := by kernel_rfl
  simpa using List.all_eq_true.1 this q hq
theorem mach_built (b : Nat) : Tryz.prog.built 94 [(0, .agg hart0), (1, .pointer (some ⟨b, 0, none⟩))] = some (cksV hartC hart0L ++ [Value.pointer (some ⟨b, 0, none⟩)]).toArray := by kernel_rfl
theorem mach_arr (b : Nat) : ((Array.foldl (fun cs x => cs.setIfInBounds x.snd x.fst) Tryz.zeroCells94 hart0.zipIdx 0 hart0.size).setIfInBounds 66 (Value.pointer (some ⟨b, 0, none⟩))) = (cksV hartC hart0L ++ [Value.pointer (some ⟨b, 0, none⟩)]).toArray := by kernel_rfl
/-- a machine that is made: it, its memory, what the memory holds -/
def MachNew (w : World) (n : Nat) (l : List Int) (m : Nat) (e : Ending) (w' : World) : Prop :=
  ∃ p b S, e = .returned (.tuple #[.pointer (some ⟨p, 0, none⟩), .int .i64 0]) ∧ MachAt w' p b (cksV hartC hart0L) ∧ RamAt w' b n (putTo (fun _ => 0) 0 (fun i => (l.getD i 0).toNat) (fun _ => true) m) S ∧ p ≠ b ∧ ¬ S p ∧ (∀ g, S g → w.heap.size ≤ g) ∧ w.heap.size ≤ b ∧ w.heap.size ≤ p ∧ Below w.heap.size w w'
set_option maxHeartbeats 1000000 in
theorem isa_new (n : Nat) (h4 : 4 ≤ n) (h256 : n ≤ 256) (a : Option Addr) (m c : Nat) (hm : (m : Int) ≤ (n : Int) * 4096) (w : World) (l : List Int) (hl : IsB w a m l) (hp : ∀ S : Nat → Prop, (∀ g, S g → w.heap.size ≤ g) → Apart S a) :
    Calls Tryz.prog 34 #[.int .i64 n, .slice a m c] w (MachNew w n l m) := by
  have HL := Lib.hid (rom_load_ok n h4 h256 a m c hm w l hl hp)
  clear h4 h256 hm hl hp
  go_enter Tryz.func34, Tryz.ntmps34
  go_wp2_with fail
  refine HL.out.mono ?_
  rintro e w1 ⟨b, S, rfl, hat, hS, hb, hw⟩
  have HW := Lib.hid hw
  have H := Lib.hid hat
  have HS := Lib.hid hS
  have HBB := Lib.hid hb
  clear hat hw hS hb HL
  go_wp2_with fail
  refine (rom_reset _).mono ?_
  rintro e w2 ⟨rfl, hb2⟩
  have HB2 := Lib.hid hb2
  clear hb2
  have HMB := mach_built b
  go_wp2_with (first | (refine wpList_build rfl 94 _ rfl (Option.isSome_iff_exists.2 ⟨_, HMB⟩) ?_) | (with_reducible refine wpList_box ?_) )
  go_ret2
  rw [mach_arr]
  have hs1 := HW.out.size
  have hs2 := HB2.out.size
  have hal := (Below.refl w2.heap.size w2).alloc (Nat.le_refl _) (Obj.cells (cksV hartC hart0L ++ [Value.pointer (some ⟨b, 0, none⟩)]).toArray 94)
  have hbl := H.out.self.2
  refine ⟨w2.heap.size, b, S, rfl, ⟨by rw [cksV_len]; rfl, blk_alloc _ _⟩, (H.out.below HB2.out).below hal, by omega, fun hs => by have := H.out.lt hs; omega, HS.out, HBB.out, by omega, ?_⟩
  exact (below_then HW.out HB2.out hs1).alloc (by omega) _
end Go.Proofs.YtkogjjeoihnjpaaGreat
end
section
set_option linter.unusedVariables false
set_option linter.unusedSimpArgs false
namespace Go.Proofs.YtkogjjeoihnjpaaGreat
open Go.RowKit Sx
set_option maxRecDepth 100000
theorem rmay_says : Says Tryz.prog 18 [.agg hartC] hartR mayK true := says_of_run (orc := noOrc) (ft := fun _ _ => []) (lf := 5000) (n := 100) tab_ok mixed (noOrc_ok _ _ _) (by decide) (by kernel_rfl) (by kernel_rfl)
theorem cksV_one : ∀ (cs : List CK) (l : List Int), ∀ v ∈ cksV cs l, v.oneCell' = true
  | [], _, v, h => nomatch h
  | c :: cs, l, v, h => by
    rcases List.mem_cons.1 h with rfl | h
    · cases c <;> rfl
    · exact cksV_one cs _ v h
theorem MachAt.range {w : World} {p b : Nat} {cs : List Value} (h : MachAt w p b cs) : w.rangeAt p 0 cs := fun j v hv => by
  simp only [World.cell?, h.2]
  have hj := (List.getElem?_eq_some_iff.1 hv).1
  simp [List.getElem?_append_left hj, hv]
set_option maxHeartbeats 1000000 in
theorem mach_hart {w : World} {p b : Nat} {h : List Int} (hm : MachAt w p b (cksV hartC h)) : Calls Tryz.prog 17 #[.pointer (some ⟨p, 0, none⟩)] w (Gives (.agg (cksV hartC h).toArray) w) := by
  have hz := hart_zero
  have HM := Lib.hid hm
  have HI : Hid ((Tryz.prog.info? 43).map (·.size) = some (cksV hartC h).length) := by show _ = _; rw [cksV_len]; exact (by kernel_rfl : (Tryz.prog.info? 43).map (·.size) = some hartC.length)
  have HO : Hid ((cksV hartC h).toArray.all (·.oneCell') = true) := all_oneCell_toArray (cksV_one hartC h)
  have HS : Hid ((cksV hartC h).toArray.size = zhart.size) := by show _ = _; rw [List.size_toArray, cksV_len]; exact (by kernel_rfl : hartC.length = zhart.size)
  have HI2 : Hid ((Tryz.prog.info? 43).map (·.size) = some (cksV hartC h).toArray.size) := by rw [List.size_toArray]; exact HI
  clear hm
  generalize cksV hartC h = L at *
  go_enter Tryz.func17, Tryz.ntmps17
  go_wp2_with (first | (refine wpList_store_row rfl 43 _ _ rfl w.heap.size L.toArray rfl rfl 43 zhart (blk_alloc _ _) HI2.out HS.out.symm HO.out ?_) | refine wpList_load_mid rfl 43 _ rfl p 0 rfl L _ (HM.out.below ((Below.refl _ _).alloc (Nat.le_refl _) _)).range Tryz.underlying43 rfl HI.out ?_)
  exact bodyPost_ret (results_cell_row rfl _ _ w.heap.size _ L.toArray _ _ rfl (setRow_heap _ _ _ _ _ _ (blk_alloc _ _)) Tryz.underlying43 rfl HI2.out) rfl ⟨rfl, below_setRow ((Below.refl _ _).alloc (Nat.le_refl _) _) (Nat.le_refl _) _⟩
end Go.Proofs.YtkogjjeoihnjpaaGreat
end
