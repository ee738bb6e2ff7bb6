/- rom.Load as a contract for runs on terms. No condition. The functions of the text as a table. No condition. -/
import Derived.Test.YtgadnacgilbanaaGreatPack2
import Derived.Test.YtgadnacgilbanaaGreatPack5
import Derived.Test.YtgadnacgilbanaaGreatProg
section
set_option linter.unusedVariables false
set_option linter.unusedSimpArgs false
namespace Go.Proofs.YtgadnacgilbanaaGreat.Sx
open Go Go.RowKit
/-- all that was there is as it was; these values are what they are -/
def oldExt (W : World) (px : Nat → Option Value) : Ext :=
  ⟨fun _ w S => W.heap.size ≤ w.heap.size ∧ (∀ k, S k ↔ k < W.heap.size) ∧ ∀ k, k < W.heap.size → w.heap[k]? = W.heap[k]?,
   fun g w w' S h hs hk => ⟨Nat.le_trans h.1 hs, h.2.1, fun k hk' => (hk k ((h.2.1 k).2 hk')).trans (h.2.2 k hk')⟩,
   fun g w S h k hk => Nat.lt_of_lt_of_le ((h.2.1 k).1 hk) h.1, px⟩
/-- a block that nothing is known of -/
theorem HRel.blank {C : Ctx} {hp : Hp} {w w' : World} (h : HRel C hp w) (hcan : hp.can = true) (hb : Below w.heap.size w w') {g c : Nat} (hg : w.heap.size ≤ g) (hg' : g < w'.heap.size) :
    HRel (C.add hp.nx g c) { hp with nx := hp.nx + 1 } w' ∧ Kp C w (C.add hp.nx g c) w' := by
  have hn := (h.free hp.nx (Hp.can_free hcan)).1
  have hle := Ctx.le_add (g := g) (c := c) hn
  have hS := C.X.lt _ _ _ h.ext
  have ne : ∀ b blk, hget hp.H b = some blk → b ≠ hp.nx := fun b blk hb e => by
    obtain ⟨g', c', k1, _⟩ := h.at_ b blk hb
    rw [e, hn] at k1; cases k1
  have same : ∀ b blk, hget hp.H b = some blk → (C.add hp.nx g c).bl b = C.bl b := fun b blk hb => by
    simp only [Ctx.add]; rw [if_neg (ne b blk hb)]
  refine ⟨⟨⟨fun b blk hb' => ?_, fun b b' x x' g1 c1 c2 hx hx' hg1 hg2 => ?_⟩, C.X.keep _ _ _ _ h.ext hb.size (fun k hk => hb.block k (hS k hk)), fun b g1 c1 hb1 => ?_, fun b x g1 c1 hx hit hb1 => ?_, fun b hb1 => ?_, fun b g1 c1 hb1 => ?_⟩, hle, hb.size, hb.tape, hb.os, hb.output, fun k hk _ _ => hb.block k hk, fun _ h => .inl h, fun k hk => ?_, fun b g1 c1 hb1 => ?_⟩
  · obtain ⟨g1, c1, k1, k2⟩ := h.at_ b blk hb'
    exact ⟨g1, c1, hle.bl _ _ k1, by rw [hb.block g1 k2.lt]; exact k2.le hle⟩
  · rw [same b x hx] at hg1; rw [same b' x' hx'] at hg2
    exact h.inj b b' x x' g1 c1 c2 hx hx' hg1 hg2
  · by_cases e : b = hp.nx
    · simp [Ctx.add, e] at hb1
      intro hk; have := hS g1 hk; omega
    · simp [Ctx.add, e] at hb1; exact h.apart b g1 c1 hb1
  · rw [same b x hx] at hb1
    exact .inr (h.own b x g1 c1 hx hit hb1)
  · obtain ⟨m1, m2⟩ := Hp.can_next (H := hp.H) hcan hb1
    obtain ⟨k1, k2⟩ := h.free b m1
    refine ⟨?_, k2⟩
    simp only [Ctx.add]
    rw [if_neg m2]
    exact k1
  · by_cases e : b = hp.nx
    · simp [Ctx.add, e] at hb1; omega
    · simp [Ctx.add, e] at hb1; exact Nat.lt_of_lt_of_le (h.blt b g1 c1 hb1) hb.size
  · rcases hk with rfl | hk
    · exact .inr hg
    · exact .inl hk
  · by_cases e : b = hp.nx
    · simp [Ctx.add, e] at hb1; exact .inr (by omega)
    · simp [Ctx.add, e] at hb1; exact .inl ⟨b, c1, hb1⟩
theorem HRel.below {C : Ctx} {hp : Hp} {w w' : World} (h : HRel C hp w) (hb : Below w.heap.size w w') : HRel C hp w' ∧ Kp C w C w' := by
  refine ⟨⟨⟨fun b blk hb' => ?_, h.inj⟩, C.X.keep _ _ _ _ h.ext hb.size (fun g hg => hb.block g (C.X.lt _ _ _ h.ext g hg)), h.apart, h.own, h.free, fun b g c hb1 => Nat.lt_of_lt_of_le (h.blt b g c hb1) hb.size⟩, .refl C, hb.size, hb.tape, hb.os, hb.output, fun g hg _ _ => hb.block g hg, fun _ h => .inl h, fun _ h => .inl h, fun b _ c h => .inl ⟨b, c, h⟩⟩
  obtain ⟨g, c, k1, k2⟩ := h.at_ b blk hb'
  exact ⟨g, c, k1, by rw [hb.block g k2.lt]; exact k2⟩
def loadBad (k : Int) (hp : Hp) : XR := .ret (.tup [.one .nilp, .one (.int .i64 (.lit k))], hp)
def loadT (n m : E) (hp : Hp) : XR :=
  .ite (.cmp .lss n (.lit 4)) (loadBad 1 hp) (.ite (.cmp .gtr n (.lit 256)) (loadBad 1 hp) (.ite (.cmp .gtr m (.bin .mul .i64 n (.lit 4096))) (loadBad 3 hp)
    (.ret (.tup [.one (.ptr hp.nx 0), .one (.int .i64 (.lit 0))], { hp with nx := hp.nx + 1 }))))
def loadOrc (f0 : FuncId) (i0 : Nat) : Orc := fun f args hp =>
  bif Nat.beq f f0 then
    match args with
    | [.pv (.one (.int .i64 n)), .pv (.one (.xs i m))] => bif Nat.beq i i0 && hp.can then some (loadT n m hp) else none
    | _ => none
  else none
theorem loadOrc_ok (W : World) (a : Option Addr) (m c : Nat) (l : List Int) (hl : IsB W a m l) (hlt : ∀ b o s, a = some ⟨b, o, s⟩ → b < W.heap.size) (hm2 : (m : Int) ≤ 9223372036854775807) (px : Nat → Option Value) (i0 : Nat) (hpx : px i0 = some (.slice a m c)) (ft : Ft) :
    OrcOk Tryz.prog (oldExt W px) ft (loadOrc 13 i0) := by
  intro f args hp t ht C w vs hC h hv Φ hx
  unfold loadOrc at ht
  cases hb : Nat.beq f 13 with
  | false => rw [hb, cond_false] at ht; cases ht
  | true =>
    rw [hb, cond_true] at ht
    have hf : f = 13 := Nat.eq_of_beq_eq_true hb
    subst hf
    split at ht
    · rename_i n i me
      cases hc : (Nat.beq i i0 && hp.can) with
      | false => rw [hc, cond_false] at ht; cases ht
      | true =>
        rw [hc, cond_true] at ht
        cases ht
        simp only [Bool.and_eq_true] at hc
        obtain ⟨hi, hcan⟩ := hc
        have hi : i = i0 := Nat.eq_of_beq_eq_true hi
        subst hi
        cases hv with
        | @cons _ v1 _ vs1 h1 h2 =>
        cases h2 with
        | @cons _ v2 _ vs2 h2 h3 =>
        cases h3
        obtain ⟨s1, rfl⟩ := h1
        obtain ⟨_, e2, s2, a', m', c', e3, e4⟩ := h2
        have hpin := (hC.2.2 i _ (by rw [show (oldExt W px).px i = px i from rfl]; exact hpx)).2
        rw [hpin] at e2
        subst e2
        cases e3
        obtain ⟨N, hN⟩ : ∃ N, N = n.den C.V := ⟨_, rfl⟩
        have hext := h.ext
        rw [hC.2.1] at hext
        obtain ⟨x1, x2, x3⟩ := hext
        -- what the tests say
        have t1 : (E.cmp .lss n (.lit 4)).tr C.V = decide (N < 4) := by rw [hN]; rfl
        have t2 : (E.cmp .gtr n (.lit 256)).tr C.V = decide (N > 256) := by rw [hN]; rfl
        have t3 : 4 ≤ N → N ≤ 256 → (E.cmp .gtr me (.bin .mul .i64 n (.lit 4096))).tr C.V = decide ((m : Int) > N * 4096) := fun q1 q2 => by
          have : (E.bin .mul .i64 n (.lit 4096)).den C.V = N * 4096 := by
            rw [den_bin, den_lit, ← hN]
            exact wrap_in .i64 _ (by simp only [kLo]; omega) (by simp only [kHi]; omega)
          rw [tr_cmp, this, ← e4]; rfl
        have bad : ∀ k, Φ C.V (.tup [.one .nilp, .one (.int .i64 (.lit k))], hp) → Calls Tryz.prog 13 #[.int .i64 N, .slice a m c] w (NoLoad w k) →
            Calls Tryz.prog 13 #[.int .i64 N, .slice a m c] w fun e w' => ∃ C' v sv hp', e = .returned v ∧ sv.rel C' v ∧ HRel C' hp' w' ∧ Kp C w C' w' ∧ Φ C'.V (sv, hp') := fun k hk hcall => by
          refine hcall.mono fun e w' hh => ?_
          obtain ⟨rfl, hbel⟩ := hh
          obtain ⟨k1, k2⟩ := h.below hbel
          exact ⟨C, _, .tup [.one .nilp, .one (.int .i64 (.lit k))], hp, rfl, ⟨[.pointer none, .int .i64 k], .cons rfl (.cons ⟨trivial, rfl⟩ .nil), rfl⟩, k1, k2, hk⟩
        show Calls Tryz.prog 13 #[.int .i64 (n.den C.V), .slice a m c] w _
        rw [← hN]
        obtain ⟨g1, g2⟩ := hx
        by_cases q1 : N < 4
        · exact bad 1 (g1 (by rw [t1]; simpa using q1)) (rom_load_arg N (.inl q1) a m c w)
        obtain ⟨g2, g3⟩ := g2 (by rw [t1]; simpa using q1)
        by_cases q2 : N > 256
        · exact bad 1 (g2 (by rw [t2]; simpa using q2)) (rom_load_arg N (.inr q2) a m c w)
        obtain ⟨g3, g4⟩ := g3 (by rw [t2]; simpa using q2)
        obtain ⟨k, rfl⟩ : ∃ k : Nat, N = k := ⟨N.toNat, by omega⟩
        have q3 : 4 ≤ k := by omega
        have q4 : k ≤ 256 := by omega
        by_cases q5 : (m : Int) > k * 4096
        · exact bad 3 (g3 (by rw [t3 (by omega) (by omega)]; simpa using q5)) (rom_load_full k q3 q4 a m c q5 hm2 w)
        have g4 := g4 (by rw [t3 (by omega) (by omega)]; simpa using q5)
        have hlw : IsB w a m l := by
          obtain ⟨y1, y2, y3⟩ := hl
          refine ⟨y1, y2, y3.imp id ?_⟩
          rintro ⟨b, o, rfl, hcell⟩
          refine ⟨b, o, rfl, fun j hj => ?_⟩
          rw [World.cell?_of_block (w := W) (w' := w) (x3 b (hlt b o none rfl))]
          exact hcell j hj
        refine (rom_load_ok k q3 q4 a m c (by omega) w l hlw (fun S hS b o s e => fun hSb => ?_)).mono fun e w' hh => ?_
        · have := hlt b o s e
          have := hS b hSb
          omega
        · obtain ⟨b, S, rfl, hRam, _, hb1, hbel⟩ := hh
          obtain ⟨k1, k2⟩ := h.blank (c := 0) hcan hbel hb1 (by
            obtain ⟨m0, pg0, hR, _⟩ := hRam
            exact (Array.getElem?_eq_some_iff.1 hR.at_).1)
          exact ⟨_, _, .tup [.one (.ptr hp.nx 0), .one (.int .i64 (.lit 0))], _, rfl, ⟨[.pointer (some ⟨b, 0, none⟩), .int .i64 0], .cons ⟨b, 0, by simp [Ctx.add], rfl⟩ (.cons ⟨trivial, rfl⟩ .nil), rfl⟩, k1, k2, g4⟩
    · cases ht
end Go.Proofs.YtgadnacgilbanaaGreat.Sx
end
section
set_option linter.unusedVariables false
namespace Go.Proofs.YtgadnacgilbanaaGreat.Sx
open Go
theorem fn2 : FnOk Tryz.prog 2 Tryz.f2 := ⟨Tryz.func2, by kernel_rfl, _, rfl⟩
theorem fn3 : FnOk Tryz.prog 3 Tryz.f3 := ⟨Tryz.func3, by kernel_rfl, _, rfl⟩
theorem fn4 : FnOk Tryz.prog 4 Tryz.f4 := ⟨Tryz.func4, by kernel_rfl, _, rfl⟩
theorem fn5 : FnOk Tryz.prog 5 Tryz.f5 := ⟨Tryz.func5, by kernel_rfl, _, rfl⟩
theorem fn6 : FnOk Tryz.prog 6 Tryz.f6 := ⟨Tryz.func6, by kernel_rfl, _, rfl⟩
theorem fn7 : FnOk Tryz.prog 7 Tryz.f7 := ⟨Tryz.func7, by kernel_rfl, _, rfl⟩
theorem fn8 : FnOk Tryz.prog 8 Tryz.f8 := ⟨Tryz.func8, by kernel_rfl, _, rfl⟩
theorem fn9 : FnOk Tryz.prog 9 Tryz.f9 := ⟨Tryz.func9, by kernel_rfl, _, rfl⟩
theorem fn10 : FnOk Tryz.prog 10 Tryz.f10 := ⟨Tryz.func10, by kernel_rfl, _, rfl⟩
theorem fn11 : FnOk Tryz.prog 11 Tryz.f11 := ⟨Tryz.func11, by kernel_rfl, _, rfl⟩
theorem fn12 : FnOk Tryz.prog 12 Tryz.f12 := ⟨Tryz.func12, by kernel_rfl, _, rfl⟩
theorem fn13 : FnOk Tryz.prog 13 Tryz.f13 := ⟨Tryz.func13, by kernel_rfl, _, rfl⟩
theorem fn14 : FnOk Tryz.prog 14 Tryz.f14 := ⟨Tryz.func14, by kernel_rfl, _, rfl⟩
theorem fn15 : FnOk Tryz.prog 15 Tryz.f15 := ⟨Tryz.func15, by kernel_rfl, _, rfl⟩
theorem fn16 : FnOk Tryz.prog 16 Tryz.f16 := ⟨Tryz.func16, by kernel_rfl, _, rfl⟩
theorem fn17 : FnOk Tryz.prog 17 Tryz.f17 := ⟨Tryz.func17, by kernel_rfl, _, rfl⟩
theorem fn18 : FnOk Tryz.prog 18 Tryz.f18 := ⟨Tryz.func18, by kernel_rfl, _, rfl⟩
theorem fn19 : FnOk Tryz.prog 19 Tryz.f19 := ⟨Tryz.func19, by kernel_rfl, _, rfl⟩
theorem fn20 : FnOk Tryz.prog 20 Tryz.f20 := ⟨Tryz.func20, by kernel_rfl, _, rfl⟩
theorem fn21 : FnOk Tryz.prog 21 Tryz.f21 := ⟨Tryz.func21, by kernel_rfl, _, rfl⟩
theorem fn22 : FnOk Tryz.prog 22 Tryz.f22 := ⟨Tryz.func22, by kernel_rfl, _, rfl⟩
theorem fn23 : FnOk Tryz.prog 23 Tryz.f23 := ⟨Tryz.func23, by kernel_rfl, _, rfl⟩
theorem fn24 : FnOk Tryz.prog 24 Tryz.f24 := ⟨Tryz.func24, by kernel_rfl, _, rfl⟩
theorem fn25 : FnOk Tryz.prog 25 Tryz.f25 := ⟨Tryz.func25, by kernel_rfl, _, rfl⟩
theorem fn26 : FnOk Tryz.prog 26 Tryz.f26 := ⟨Tryz.func26, by kernel_rfl, _, rfl⟩
theorem fn27 : FnOk Tryz.prog 27 Tryz.f27 := ⟨Tryz.func27, by kernel_rfl, _, rfl⟩
theorem fn28 : FnOk Tryz.prog 28 Tryz.f28 := ⟨Tryz.func28, by kernel_rfl, _, rfl⟩
theorem fn29 : FnOk Tryz.prog 29 Tryz.f29 := ⟨Tryz.func29, by kernel_rfl, _, rfl⟩
theorem fn30 : FnOk Tryz.prog 30 Tryz.f30 := ⟨Tryz.func30, by kernel_rfl, _, rfl⟩
theorem fn31 : FnOk Tryz.prog 31 Tryz.f31 := ⟨Tryz.func31, by kernel_rfl, _, rfl⟩
theorem fn32 : FnOk Tryz.prog 32 Tryz.f32 := ⟨Tryz.func32, by kernel_rfl, _, rfl⟩
theorem fn33 : FnOk Tryz.prog 33 Tryz.f33 := ⟨Tryz.func33, by kernel_rfl, _, rfl⟩
theorem fn34 : FnOk Tryz.prog 34 Tryz.f34 := ⟨Tryz.func34, by kernel_rfl, _, rfl⟩
theorem fn35 : FnOk Tryz.prog 35 Tryz.f35 := ⟨Tryz.func35, by kernel_rfl, _, rfl⟩
theorem fn36 : FnOk Tryz.prog 36 Tryz.f36 := ⟨Tryz.func36, by kernel_rfl, _, rfl⟩
theorem fn37 : FnOk Tryz.prog 37 Tryz.f37 := ⟨Tryz.func37, by kernel_rfl, _, rfl⟩
theorem fn38 : FnOk Tryz.prog 38 Tryz.f38 := ⟨Tryz.func38, by kernel_rfl, _, rfl⟩
theorem fn39 : FnOk Tryz.prog 39 Tryz.f39 := ⟨Tryz.func39, by kernel_rfl, _, rfl⟩
theorem fn40 : FnOk Tryz.prog 40 Tryz.f40 := ⟨Tryz.func40, by kernel_rfl, _, rfl⟩
theorem fn41 : FnOk Tryz.prog 41 Tryz.f41 := ⟨Tryz.func41, by kernel_rfl, _, rfl⟩
theorem fn42 : FnOk Tryz.prog 42 Tryz.f42 := ⟨Tryz.func42, by kernel_rfl, _, rfl⟩
theorem fn43 : FnOk Tryz.prog 43 Tryz.f43 := ⟨Tryz.func43, by kernel_rfl, _, rfl⟩
theorem fn44 : FnOk Tryz.prog 44 Tryz.f44 := ⟨Tryz.func44, by kernel_rfl, _, rfl⟩
theorem fn45 : FnOk Tryz.prog 45 Tryz.f45 := ⟨Tryz.func45, by kernel_rfl, _, rfl⟩
theorem fn46 : FnOk Tryz.prog 46 Tryz.f46 := ⟨Tryz.func46, by kernel_rfl, _, rfl⟩
theorem fn47 : FnOk Tryz.prog 47 Tryz.f47 := ⟨Tryz.func47, by kernel_rfl, _, rfl⟩
theorem fn48 : FnOk Tryz.prog 48 Tryz.f48 := ⟨Tryz.func48, by kernel_rfl, _, rfl⟩
theorem fn49 : FnOk Tryz.prog 49 Tryz.f49 := ⟨Tryz.func49, by kernel_rfl, _, rfl⟩
theorem fn50 : FnOk Tryz.prog 50 Tryz.f50 := ⟨Tryz.func50, by kernel_rfl, _, rfl⟩
theorem fn51 : FnOk Tryz.prog 51 Tryz.f51 := ⟨Tryz.func51, by kernel_rfl, _, rfl⟩
theorem fn52 : FnOk Tryz.prog 52 Tryz.f52 := ⟨Tryz.func52, by kernel_rfl, _, rfl⟩
theorem fn53 : FnOk Tryz.prog 53 Tryz.f53 := ⟨Tryz.func53, by kernel_rfl, _, rfl⟩
theorem fn54 : FnOk Tryz.prog 54 Tryz.f54 := ⟨Tryz.func54, by kernel_rfl, _, rfl⟩
theorem fn55 : FnOk Tryz.prog 55 Tryz.f55 := ⟨Tryz.func55, by kernel_rfl, _, rfl⟩
theorem fn56 : FnOk Tryz.prog 56 Tryz.f56 := ⟨Tryz.func56, by kernel_rfl, _, rfl⟩
theorem fn57 : FnOk Tryz.prog 57 Tryz.f57 := ⟨Tryz.func57, by kernel_rfl, _, rfl⟩
theorem fn58 : FnOk Tryz.prog 58 Tryz.f58 := ⟨Tryz.func58, by kernel_rfl, _, rfl⟩
theorem fn59 : FnOk Tryz.prog 59 Tryz.f59 := ⟨Tryz.func59, by kernel_rfl, _, rfl⟩
theorem fn60 : FnOk Tryz.prog 60 Tryz.f60 := ⟨Tryz.func60, by kernel_rfl, _, rfl⟩
theorem fn61 : FnOk Tryz.prog 61 Tryz.f61 := ⟨Tryz.func61, by kernel_rfl, _, rfl⟩
theorem fn62 : FnOk Tryz.prog 62 Tryz.f62 := ⟨Tryz.func62, by kernel_rfl, _, rfl⟩
theorem fn63 : FnOk Tryz.prog 63 Tryz.f63 := ⟨Tryz.func63, by kernel_rfl, _, rfl⟩
theorem fn64 : FnOk Tryz.prog 64 Tryz.f64 := ⟨Tryz.func64, by kernel_rfl, _, rfl⟩
theorem fn65 : FnOk Tryz.prog 65 Tryz.f65 := ⟨Tryz.func65, by kernel_rfl, _, rfl⟩
theorem fn66 : FnOk Tryz.prog 66 Tryz.f66 := ⟨Tryz.func66, by kernel_rfl, _, rfl⟩
theorem fn67 : FnOk Tryz.prog 67 Tryz.f67 := ⟨Tryz.func67, by kernel_rfl, _, rfl⟩
theorem fn68 : FnOk Tryz.prog 68 Tryz.f68 := ⟨Tryz.func68, by kernel_rfl, _, rfl⟩
theorem fn69 : FnOk Tryz.prog 69 Tryz.f69 := ⟨Tryz.func69, by kernel_rfl, _, rfl⟩
theorem fn70 : FnOk Tryz.prog 70 Tryz.f70 := ⟨Tryz.func70, by kernel_rfl, _, rfl⟩
theorem fn71 : FnOk Tryz.prog 71 Tryz.f71 := ⟨Tryz.func71, by kernel_rfl, _, rfl⟩
theorem fn72 : FnOk Tryz.prog 72 Tryz.f72 := ⟨Tryz.func72, by kernel_rfl, _, rfl⟩
theorem fn73 : FnOk Tryz.prog 73 Tryz.f73 := ⟨Tryz.func73, by kernel_rfl, _, rfl⟩
theorem fn74 : FnOk Tryz.prog 74 Tryz.f74 := ⟨Tryz.func74, by kernel_rfl, _, rfl⟩
theorem fn75 : FnOk Tryz.prog 75 Tryz.f75 := ⟨Tryz.func75, by kernel_rfl, _, rfl⟩
theorem fn76 : FnOk Tryz.prog 76 Tryz.f76 := ⟨Tryz.func76, by kernel_rfl, _, rfl⟩
theorem fn77 : FnOk Tryz.prog 77 Tryz.f77 := ⟨Tryz.func77, by kernel_rfl, _, rfl⟩
theorem fn78 : FnOk Tryz.prog 78 Tryz.f78 := ⟨Tryz.func78, by kernel_rfl, _, rfl⟩
theorem fn79 : FnOk Tryz.prog 79 Tryz.f79 := ⟨Tryz.func79, by kernel_rfl, _, rfl⟩
theorem fn80 : FnOk Tryz.prog 80 Tryz.f80 := ⟨Tryz.func80, by kernel_rfl, _, rfl⟩
theorem fn81 : FnOk Tryz.prog 81 Tryz.f81 := ⟨Tryz.func81, by kernel_rfl, _, rfl⟩
theorem fn82 : FnOk Tryz.prog 82 Tryz.f82 := ⟨Tryz.func82, by kernel_rfl, _, rfl⟩
theorem fn83 : FnOk Tryz.prog 83 Tryz.f83 := ⟨Tryz.func83, by kernel_rfl, _, rfl⟩
theorem fn84 : FnOk Tryz.prog 84 Tryz.f84 := ⟨Tryz.func84, by kernel_rfl, _, rfl⟩
theorem fn85 : FnOk Tryz.prog 85 Tryz.f85 := ⟨Tryz.func85, by kernel_rfl, _, rfl⟩
theorem fn86 : FnOk Tryz.prog 86 Tryz.f86 := ⟨Tryz.func86, by kernel_rfl, _, rfl⟩
theorem fn87 : FnOk Tryz.prog 87 Tryz.f87 := ⟨Tryz.func87, by kernel_rfl, _, rfl⟩
theorem fn88 : FnOk Tryz.prog 88 Tryz.f88 := ⟨Tryz.func88, by kernel_rfl, _, rfl⟩
theorem fn89 : FnOk Tryz.prog 89 Tryz.f89 := ⟨Tryz.func89, by kernel_rfl, _, rfl⟩
theorem fn90 : FnOk Tryz.prog 90 Tryz.f90 := ⟨Tryz.func90, by kernel_rfl, _, rfl⟩
theorem fn91 : FnOk Tryz.prog 91 Tryz.f91 := ⟨Tryz.func91, by kernel_rfl, _, rfl⟩
theorem fn92 : FnOk Tryz.prog 92 Tryz.f92 := ⟨Tryz.func92, by kernel_rfl, _, rfl⟩
theorem fn93 : FnOk Tryz.prog 93 Tryz.f93 := ⟨Tryz.func93, by kernel_rfl, _, rfl⟩
theorem fn94 : FnOk Tryz.prog 94 Tryz.f94 := ⟨Tryz.func94, by kernel_rfl, _, rfl⟩
theorem fn95 : FnOk Tryz.prog 95 Tryz.f95 := ⟨Tryz.func95, by kernel_rfl, _, rfl⟩
theorem fn96 : FnOk Tryz.prog 96 Tryz.f96 := ⟨Tryz.func96, by kernel_rfl, _, rfl⟩
theorem fn97 : FnOk Tryz.prog 97 Tryz.f97 := ⟨Tryz.func97, by kernel_rfl, _, rfl⟩
theorem fn98 : FnOk Tryz.prog 98 Tryz.f98 := ⟨Tryz.func98, by kernel_rfl, _, rfl⟩
theorem fn99 : FnOk Tryz.prog 99 Tryz.f99 := ⟨Tryz.func99, by kernel_rfl, _, rfl⟩
theorem fn100 : FnOk Tryz.prog 100 Tryz.f100 := ⟨Tryz.func100, by kernel_rfl, _, rfl⟩
theorem fn101 : FnOk Tryz.prog 101 Tryz.f101 := ⟨Tryz.func101, by kernel_rfl, _, rfl⟩
theorem fn102 : FnOk Tryz.prog 102 Tryz.f102 := ⟨Tryz.func102, by kernel_rfl, _, rfl⟩
theorem fn103 : FnOk Tryz.prog 103 Tryz.f103 := ⟨Tryz.func103, by kernel_rfl, _, rfl⟩
theorem fn104 : FnOk Tryz.prog 104 Tryz.f104 := ⟨Tryz.func104, by kernel_rfl, _, rfl⟩
theorem fn105 : FnOk Tryz.prog 105 Tryz.f105 := ⟨Tryz.func105, by kernel_rfl, _, rfl⟩
theorem fn106 : FnOk Tryz.prog 106 Tryz.f106 := ⟨Tryz.func106, by kernel_rfl, _, rfl⟩
theorem fn107 : FnOk Tryz.prog 107 Tryz.f107 := ⟨Tryz.func107, by kernel_rfl, _, rfl⟩
theorem fn108 : FnOk Tryz.prog 108 Tryz.f108 := ⟨Tryz.func108, by kernel_rfl, _, rfl⟩
theorem fn109 : FnOk Tryz.prog 109 Tryz.f109 := ⟨Tryz.func109, by kernel_rfl, _, rfl⟩
theorem fn110 : FnOk Tryz.prog 110 Tryz.f110 := ⟨Tryz.func110, by kernel_rfl, _, rfl⟩
theorem fn111 : FnOk Tryz.prog 111 Tryz.f111 := ⟨Tryz.func111, by kernel_rfl, _, rfl⟩
theorem fn112 : FnOk Tryz.prog 112 Tryz.f112 := ⟨Tryz.func112, by kernel_rfl, _, rfl⟩
theorem fn113 : FnOk Tryz.prog 113 Tryz.f113 := ⟨Tryz.func113, by kernel_rfl, _, rfl⟩
theorem fn114 : FnOk Tryz.prog 114 Tryz.f114 := ⟨Tryz.func114, by kernel_rfl, _, rfl⟩
theorem fn115 : FnOk Tryz.prog 115 Tryz.f115 := ⟨Tryz.func115, by kernel_rfl, _, rfl⟩
theorem fn116 : FnOk Tryz.prog 116 Tryz.f116 := ⟨Tryz.func116, by kernel_rfl, _, rfl⟩
theorem fn117 : FnOk Tryz.prog 117 Tryz.f117 := ⟨Tryz.func117, by kernel_rfl, _, rfl⟩
theorem fn118 : FnOk Tryz.prog 118 Tryz.f118 := ⟨Tryz.func118, by kernel_rfl, _, rfl⟩
theorem fn119 : FnOk Tryz.prog 119 Tryz.f119 := ⟨Tryz.func119, by kernel_rfl, _, rfl⟩
theorem fn120 : FnOk Tryz.prog 120 Tryz.f120 := ⟨Tryz.func120, by kernel_rfl, _, rfl⟩
theorem fn121 : FnOk Tryz.prog 121 Tryz.f121 := ⟨Tryz.func121, by kernel_rfl, _, rfl⟩
theorem fn122 : FnOk Tryz.prog 122 Tryz.f122 := ⟨Tryz.func122, by kernel_rfl, _, rfl⟩
theorem fn123 : FnOk Tryz.prog 123 Tryz.f123 := ⟨Tryz.func123, by kernel_rfl, _, rfl⟩
theorem fn124 : FnOk Tryz.prog 124 Tryz.f124 := ⟨Tryz.func124, by kernel_rfl, _, rfl⟩
theorem fn125 : FnOk Tryz.prog 125 Tryz.f125 := ⟨Tryz.func125, by kernel_rfl, _, rfl⟩
theorem fn126 : FnOk Tryz.prog 126 Tryz.f126 := ⟨Tryz.func126, by kernel_rfl, _, rfl⟩
theorem fn127 : FnOk Tryz.prog 127 Tryz.f127 := ⟨Tryz.func127, by kernel_rfl, _, rfl⟩
theorem fn128 : FnOk Tryz.prog 128 Tryz.f128 := ⟨Tryz.func128, by kernel_rfl, _, rfl⟩
theorem fn129 : FnOk Tryz.prog 129 Tryz.f129 := ⟨Tryz.func129, by kernel_rfl, _, rfl⟩
theorem fn130 : FnOk Tryz.prog 130 Tryz.f130 := ⟨Tryz.func130, by kernel_rfl, _, rfl⟩
theorem fn131 : FnOk Tryz.prog 131 Tryz.f131 := ⟨Tryz.func131, by kernel_rfl, _, rfl⟩
theorem fn132 : FnOk Tryz.prog 132 Tryz.f132 := ⟨Tryz.func132, by kernel_rfl, _, rfl⟩
theorem fn133 : FnOk Tryz.prog 133 Tryz.f133 := ⟨Tryz.func133, by kernel_rfl, _, rfl⟩
theorem fn134 : FnOk Tryz.prog 134 Tryz.f134 := ⟨Tryz.func134, by kernel_rfl, _, rfl⟩
theorem fn135 : FnOk Tryz.prog 135 Tryz.f135 := ⟨Tryz.func135, by kernel_rfl, _, rfl⟩
theorem fn136 : FnOk Tryz.prog 136 Tryz.f136 := ⟨Tryz.func136, by kernel_rfl, _, rfl⟩
theorem fn137 : FnOk Tryz.prog 137 Tryz.f137 := ⟨Tryz.func137, by kernel_rfl, _, rfl⟩
theorem fn138 : FnOk Tryz.prog 138 Tryz.f138 := ⟨Tryz.func138, by kernel_rfl, _, rfl⟩
theorem fn139 : FnOk Tryz.prog 139 Tryz.f139 := ⟨Tryz.func139, by kernel_rfl, _, rfl⟩
theorem fn140 : FnOk Tryz.prog 140 Tryz.f140 := ⟨Tryz.func140, by kernel_rfl, _, rfl⟩
theorem fn141 : FnOk Tryz.prog 141 Tryz.f141 := ⟨Tryz.func141, by kernel_rfl, _, rfl⟩
theorem fn142 : FnOk Tryz.prog 142 Tryz.f142 := ⟨Tryz.func142, by kernel_rfl, _, rfl⟩
theorem fn143 : FnOk Tryz.prog 143 Tryz.f143 := ⟨Tryz.func143, by kernel_rfl, _, rfl⟩
theorem fn144 : FnOk Tryz.prog 144 Tryz.f144 := ⟨Tryz.func144, by kernel_rfl, _, rfl⟩
theorem fn145 : FnOk Tryz.prog 145 Tryz.f145 := ⟨Tryz.func145, by kernel_rfl, _, rfl⟩
noncomputable def tab : BT Func := .node 74 Tryz.f74 (.node 38 Tryz.f38 (.node 20 Tryz.f20 (.node 11 Tryz.f11 (.node 6 Tryz.f6 (.node 4 Tryz.f4 (.node 3 Tryz.f3 (.node 2 Tryz.f2 (.leaf) (.leaf)) (.leaf)) (.node 5 Tryz.f5 (.leaf) (.leaf))) (.node 9 Tryz.f9 (.node 8 Tryz.f8 (.node 7 Tryz.f7 (.leaf) (.leaf)) (.leaf)) (.node 10 Tryz.f10 (.leaf) (.leaf)))) (.node 16 Tryz.f16 (.node 14 Tryz.f14 (.node 13 Tryz.f13 (.node 12 Tryz.f12 (.leaf) (.leaf)) (.leaf)) (.node 15 Tryz.f15 (.leaf) (.leaf))) (.node 18 Tryz.f18 (.node 17 Tryz.f17 (.leaf) (.leaf)) (.node 19 Tryz.f19 (.leaf) (.leaf))))) (.node 29 Tryz.f29 (.node 25 Tryz.f25 (.node 23 Tryz.f23 (.node 22 Tryz.f22 (.node 21 Tryz.f21 (.leaf) (.leaf)) (.leaf)) (.node 24 Tryz.f24 (.leaf) (.leaf))) (.node 27 Tryz.f27 (.node 26 Tryz.f26 (.leaf) (.leaf)) (.node 28 Tryz.f28 (.leaf) (.leaf)))) (.node 34 Tryz.f34 (.node 32 Tryz.f32 (.node 31 Tryz.f31 (.node 30 Tryz.f30 (.leaf) (.leaf)) (.leaf)) (.node 33 Tryz.f33 (.leaf) (.leaf))) (.node 36 Tryz.f36 (.node 35 Tryz.f35 (.leaf) (.leaf)) (.node 37 Tryz.f37 (.leaf) (.leaf)))))) (.node 56 Tryz.f56 (.node 47 Tryz.f47 (.node 43 Tryz.f43 (.node 41 Tryz.f41 (.node 40 Tryz.f40 (.node 39 Tryz.f39 (.leaf) (.leaf)) (.leaf)) (.node 42 Tryz.f42 (.leaf) (.leaf))) (.node 45 Tryz.f45 (.node 44 Tryz.f44 (.leaf) (.leaf)) (.node 46 Tryz.f46 (.leaf) (.leaf)))) (.node 52 Tryz.f52 (.node 50 Tryz.f50 (.node 49 Tryz.f49 (.node 48 Tryz.f48 (.leaf) (.leaf)) (.leaf)) (.node 51 Tryz.f51 (.leaf) (.leaf))) (.node 54 Tryz.f54 (.node 53 Tryz.f53 (.leaf) (.leaf)) (.node 55 Tryz.f55 (.leaf) (.leaf))))) (.node 65 Tryz.f65 (.node 61 Tryz.f61 (.node 59 Tryz.f59 (.node 58 Tryz.f58 (.node 57 Tryz.f57 (.leaf) (.leaf)) (.leaf)) (.node 60 Tryz.f60 (.leaf) (.leaf))) (.node 63 Tryz.f63 (.node 62 Tryz.f62 (.leaf) (.leaf)) (.node 64 Tryz.f64 (.leaf) (.leaf)))) (.node 70 Tryz.f70 (.node 68 Tryz.f68 (.node 67 Tryz.f67 (.node 66 Tryz.f66 (.leaf) (.leaf)) (.leaf)) (.node 69 Tryz.f69 (.leaf) (.leaf))) (.node 72 Tryz.f72 (.node 71 Tryz.f71 (.leaf) (.leaf)) (.node 73 Tryz.f73 (.leaf) (.leaf))))))) (.node 110 Tryz.f110 (.node 92 Tryz.f92 (.node 83 Tryz.f83 (.node 79 Tryz.f79 (.node 77 Tryz.f77 (.node 76 Tryz.f76 (.node 75 Tryz.f75 (.leaf) (.leaf)) (.leaf)) (.node 78 Tryz.f78 (.leaf) (.leaf))) (.node 81 Tryz.f81 (.node 80 Tryz.f80 (.leaf) (.leaf)) (.node 82 Tryz.f82 (.leaf) (.leaf)))) (.node 88 Tryz.f88 (.node 86 Tryz.f86 (.node 85 Tryz.f85 (.node 84 Tryz.f84 (.leaf) (.leaf)) (.leaf)) (.node 87 Tryz.f87 (.leaf) (.leaf))) (.node 90 Tryz.f90 (.node 89 Tryz.f89 (.leaf) (.leaf)) (.node 91 Tryz.f91 (.leaf) (.leaf))))) (.node 101 Tryz.f101 (.node 97 Tryz.f97 (.node 95 Tryz.f95 (.node 94 Tryz.f94 (.node 93 Tryz.f93 (.leaf) (.leaf)) (.leaf)) (.node 96 Tryz.f96 (.leaf) (.leaf))) (.node 99 Tryz.f99 (.node 98 Tryz.f98 (.leaf) (.leaf)) (.node 100 Tryz.f100 (.leaf) (.leaf)))) (.node 106 Tryz.f106 (.node 104 Tryz.f104 (.node 103 Tryz.f103 (.node 102 Tryz.f102 (.leaf) (.leaf)) (.leaf)) (.node 105 Tryz.f105 (.leaf) (.leaf))) (.node 108 Tryz.f108 (.node 107 Tryz.f107 (.leaf) (.leaf)) (.node 109 Tryz.f109 (.leaf) (.leaf)))))) (.node 128 Tryz.f128 (.node 119 Tryz.f119 (.node 115 Tryz.f115 (.node 113 Tryz.f113 (.node 112 Tryz.f112 (.node 111 Tryz.f111 (.leaf) (.leaf)) (.leaf)) (.node 114 Tryz.f114 (.leaf) (.leaf))) (.node 117 Tryz.f117 (.node 116 Tryz.f116 (.leaf) (.leaf)) (.node 118 Tryz.f118 (.leaf) (.leaf)))) (.node 124 Tryz.f124 (.node 122 Tryz.f122 (.node 121 Tryz.f121 (.node 120 Tryz.f120 (.leaf) (.leaf)) (.leaf)) (.node 123 Tryz.f123 (.leaf) (.leaf))) (.node 126 Tryz.f126 (.node 125 Tryz.f125 (.leaf) (.leaf)) (.node 127 Tryz.f127 (.leaf) (.leaf))))) (.node 137 Tryz.f137 (.node 133 Tryz.f133 (.node 131 Tryz.f131 (.node 130 Tryz.f130 (.node 129 Tryz.f129 (.leaf) (.leaf)) (.leaf)) (.node 132 Tryz.f132 (.leaf) (.leaf))) (.node 135 Tryz.f135 (.node 134 Tryz.f134 (.leaf) (.leaf)) (.node 136 Tryz.f136 (.leaf) (.leaf)))) (.node 142 Tryz.f142 (.node 140 Tryz.f140 (.node 139 Tryz.f139 (.node 138 Tryz.f138 (.leaf) (.leaf)) (.leaf)) (.node 141 Tryz.f141 (.leaf) (.leaf))) (.node 144 Tryz.f144 (.node 143 Tryz.f143 (.leaf) (.leaf)) (.node 145 Tryz.f145 (.leaf) (.leaf)))))))
set_option maxRecDepth 100000 in
theorem tab_ok : TbOk Tryz.prog tab.get := tbOk_of (t := tab) ⟨fn74, ⟨fn38, ⟨fn20, ⟨fn11, ⟨fn6, ⟨fn4, ⟨fn3, ⟨fn2, trivial, trivial⟩, trivial⟩, ⟨fn5, trivial, trivial⟩⟩, ⟨fn9, ⟨fn8, ⟨fn7, trivial, trivial⟩, trivial⟩, ⟨fn10, trivial, trivial⟩⟩⟩, ⟨fn16, ⟨fn14, ⟨fn13, ⟨fn12, trivial, trivial⟩, trivial⟩, ⟨fn15, trivial, trivial⟩⟩, ⟨fn18, ⟨fn17, trivial, trivial⟩, ⟨fn19, trivial, trivial⟩⟩⟩⟩, ⟨fn29, ⟨fn25, ⟨fn23, ⟨fn22, ⟨fn21, trivial, trivial⟩, trivial⟩, ⟨fn24, trivial, trivial⟩⟩, ⟨fn27, ⟨fn26, trivial, trivial⟩, ⟨fn28, trivial, trivial⟩⟩⟩, ⟨fn34, ⟨fn32, ⟨fn31, ⟨fn30, trivial, trivial⟩, trivial⟩, ⟨fn33, trivial, trivial⟩⟩, ⟨fn36, ⟨fn35, trivial, trivial⟩, ⟨fn37, trivial, trivial⟩⟩⟩⟩⟩, ⟨fn56, ⟨fn47, ⟨fn43, ⟨fn41, ⟨fn40, ⟨fn39, trivial, trivial⟩, trivial⟩, ⟨fn42, trivial, trivial⟩⟩, ⟨fn45, ⟨fn44, trivial, trivial⟩, ⟨fn46, trivial, trivial⟩⟩⟩, ⟨fn52, ⟨fn50, ⟨fn49, ⟨fn48, trivial, trivial⟩, trivial⟩, ⟨fn51, trivial, trivial⟩⟩, ⟨fn54, ⟨fn53, trivial, trivial⟩, ⟨fn55, trivial, trivial⟩⟩⟩⟩, ⟨fn65, ⟨fn61, ⟨fn59, ⟨fn58, ⟨fn57, trivial, trivial⟩, trivial⟩, ⟨fn60, trivial, trivial⟩⟩, ⟨fn63, ⟨fn62, trivial, trivial⟩, ⟨fn64, trivial, trivial⟩⟩⟩, ⟨fn70, ⟨fn68, ⟨fn67, ⟨fn66, trivial, trivial⟩, trivial⟩, ⟨fn69, trivial, trivial⟩⟩, ⟨fn72, ⟨fn71, trivial, trivial⟩, ⟨fn73, trivial, trivial⟩⟩⟩⟩⟩⟩, ⟨fn110, ⟨fn92, ⟨fn83, ⟨fn79, ⟨fn77, ⟨fn76, ⟨fn75, trivial, trivial⟩, trivial⟩, ⟨fn78, trivial, trivial⟩⟩, ⟨fn81, ⟨fn80, trivial, trivial⟩, ⟨fn82, trivial, trivial⟩⟩⟩, ⟨fn88, ⟨fn86, ⟨fn85, ⟨fn84, trivial, trivial⟩, trivial⟩, ⟨fn87, trivial, trivial⟩⟩, ⟨fn90, ⟨fn89, trivial, trivial⟩, ⟨fn91, trivial, trivial⟩⟩⟩⟩, ⟨fn101, ⟨fn97, ⟨fn95, ⟨fn94, ⟨fn93, trivial, trivial⟩, trivial⟩, ⟨fn96, trivial, trivial⟩⟩, ⟨fn99, ⟨fn98, trivial, trivial⟩, ⟨fn100, trivial, trivial⟩⟩⟩, ⟨fn106, ⟨fn104, ⟨fn103, ⟨fn102, trivial, trivial⟩, trivial⟩, ⟨fn105, trivial, trivial⟩⟩, ⟨fn108, ⟨fn107, trivial, trivial⟩, ⟨fn109, trivial, trivial⟩⟩⟩⟩⟩, ⟨fn128, ⟨fn119, ⟨fn115, ⟨fn113, ⟨fn112, ⟨fn111, trivial, trivial⟩, trivial⟩, ⟨fn114, trivial, trivial⟩⟩, ⟨fn117, ⟨fn116, trivial, trivial⟩, ⟨fn118, trivial, trivial⟩⟩⟩, ⟨fn124, ⟨fn122, ⟨fn121, ⟨fn120, trivial, trivial⟩, trivial⟩, ⟨fn123, trivial, trivial⟩⟩, ⟨fn126, ⟨fn125, trivial, trivial⟩, ⟨fn127, trivial, trivial⟩⟩⟩⟩, ⟨fn137, ⟨fn133, ⟨fn131, ⟨fn130, ⟨fn129, trivial, trivial⟩, trivial⟩, ⟨fn132, trivial, trivial⟩⟩, ⟨fn135, ⟨fn134, trivial, trivial⟩, ⟨fn136, trivial, trivial⟩⟩⟩, ⟨fn142, ⟨fn140, ⟨fn139, ⟨fn138, trivial, trivial⟩, trivial⟩, ⟨fn141, trivial, trivial⟩⟩, ⟨fn144, ⟨fn143, trivial, trivial⟩, ⟨fn145, trivial, trivial⟩⟩⟩⟩⟩⟩⟩
theorem mixed : Tryz.prog.follows .mixedOrders = true := by kernel_rfl
end Go.Proofs.YtgadnacgilbanaaGreat.Sx
end
