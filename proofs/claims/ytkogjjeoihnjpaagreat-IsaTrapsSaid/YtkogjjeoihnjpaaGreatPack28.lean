/- A law's function run whole on terms: its answer is known by what was decided. No condition. An int of which the rest at a division is known, with the least bound. No condition. -/
import Derived.Test.YtkogjjeoihnjpaaGreatPack15
section
set_option linter.unusedVariables false
set_option linter.unusedSimpArgs false
namespace Go.Proofs.YtkogjjeoihnjpaaGreat.Sx
open Go Go.RowKit
set_option maxRecDepth 100000
theorem law_of_run2 {f0 : FuncId} {orc : Orc} {ft : Ft} (ho : OrcOk Tryz.prog memsX ft orc) {rs : List (Int × Int)} {fk : Ks} {args : List Int} (hi : InB rs args) (hl : rs.length ≤ 1000) (hf : fk.all (fun q => scB rs q.1) = true) (hk : KsOk (env0 args) fk)
    {svs : List SV} {vs : List Value} (hrel : All2 (SV.rel (ctxN ft args)) svs vs) (hr : (xfn Tryz.prog tab.get orc 5000 100 f0 svs (hpN fk)).every (isB' true) = true) (w : World) :
    Calls Tryz.prog f0 vs.toArray w (Gives (.bool true) w) := by
  refine (xfn_ok (X := memsX) (ft := ft) tab_ok ho mixed 5000 100 f0 svs (hpN fk) (ctxN ft args) w vs (ctxN_is ft args) (hrelN hi hl hf hk w) hrel (fun _ a => isB' true a = true) (T.every_holds hr)).mono ?_
  rintro e w' ⟨C', v, sv, hp', rfl, hrel', hH, hK, hb⟩
  exact ⟨by rw [isB'_ok hb hrel' hH], ⟨hK.os, hK.tape, hK.output, hK.size, fun k hk => hK.keep k hk (fun e => e) (fun e => e)⟩⟩
end Go.Proofs.YtkogjjeoihnjpaaGreat.Sx
end
section
set_option linter.unusedVariables false
set_option linter.unusedSimpArgs false
namespace Go.Proofs.YtkogjjeoihnjpaaGreat.Sx
open Go Go.RowKit
set_option maxRecDepth 100000
def restT2 (n j i : Nat) : E := .cast .i64 (.pl .add (.pl .mul (.var (.ofNat 0) (.ofNat ((18446744073709551615 - j) / n)) i) (.lit (.ofNat n))) (.lit (.ofNat j)))
def restS2 (n j i : Nat) : SV := .pv (.one (.int .i64 (restT2 n j i)))
theorem Int.emod_le_of_nonneg' (u : Int) (n : Nat) (h : 0 ≤ u) : u % n ≤ u := by
  have e1 := Int.mul_ediv_add_emod u n
  have e2 : 0 ≤ (n : Int) * (u / n) := Int.mul_nonneg (by omega) (Int.ediv_nonneg h (by omega))
  omega
section
variable {ft : Ft} {args : List Int}
theorem restS2_rel {n i : Nat} {k : Int} (hn : 0 < n) (hi : i < 1000) (hq : args.getD i 0 = IntKind.u64.wrap k / n) (h0 : -9223372036854775808 ≤ k) (h1 : k ≤ 9223372036854775807) : (restS2 n (IntKind.u64.wrap k % n).toNat i).rel (ctxN ft args) (.int .i64 k) := by
  have hw : 0 ≤ IntKind.u64.wrap k ∧ IntKind.u64.wrap k ≤ 18446744073709551615 := by rw [IntKind.wrap_u64]; omega
  have hwk : IntKind.i64.wrap (IntKind.u64.wrap k) = k := by rw [IntKind.wrap_u64, IntKind.wrap_i64]; omega
  generalize IntKind.u64.wrap k = u at *
  have hn' : (0 : Int) < n := by omega
  have hr : 0 ≤ u % n := Int.emod_nonneg _ (by omega)
  have hd : 0 ≤ u / n := Int.ediv_nonneg hw.1 (by omega)
  have hle : u / n ≤ (((18446744073709551615 - (u % n).toNat) / n : Nat) : Int) := by
    have e1 := Int.mul_ediv_add_emod u n
    have e2 : ((18446744073709551615 - (u % n).toNat : Nat) : Int) = 18446744073709551615 - u % n := by
      have := Int.emod_le_of_nonneg' u n hw.1
      omega
    rw [Int.natCast_ediv, e2]
    refine (Int.le_ediv_iff_mul_le hn').2 ?_
    rw [Int.mul_comm]
    omega
  refine ⟨⟨⟨⟨hi, by show Int.ofNat 0 ≤ args.getD i 0; rw [hq]; exact hd, by show args.getD i 0 ≤ _; rw [hq]; exact hle⟩, trivial⟩, trivial⟩, ?_⟩
  show Value.int .i64 k = Value.int .i64 (IntKind.i64.wrap (args.getD i 0 * Int.ofNat n + Int.ofNat (u % n).toNat))
  rw [hq]
  have : u / n * Int.ofNat n + Int.ofNat (u % n).toNat = u := by
    rw [Int.ofNat_eq_natCast, Int.ofNat_eq_natCast, Int.toNat_of_nonneg hr, Int.mul_comm]
    exact Int.mul_ediv_add_emod u n
  rw [this, hwk]
end
end Go.Proofs.YtkogjjeoihnjpaaGreat.Sx
end
