/- A hart that may be, as tests of its 66 numbers. No condition. -/
import Derived.Test.YtkogjjeoihnjpaaGreatPack8
section
set_option linter.unusedVariables false
namespace Go.Proofs.YtkogjjeoihnjpaaGreat.Sx
open Go Go.RowKit
/-- a variable of 64 bits; a number -/
def vu (i : Nat) : E := .var (.ofNat 0) (.ofNat 18446744073709551615) i
def ln (n : Nat) : E := .lit (.ofNat n)
/-! ### the forms of the program's structs -/
abbrev U : Int × Int := (.ofNat 0, .ofNat 18446744073709551615)
abbrev II : Int × Int := (.negSucc 9223372036854775807, .ofNat 9223372036854775807)
abbrev U32 : Int × Int := (.ofNat 0, .ofNat 4294967295)
abbrev BB : Int × Int := (.ofNat 0, .ofNat 1)
abbrev R (n : Nat) : Int × Int := (.ofNat 0, .ofNat n)
abbrev cu : CK := .i .u64
abbrev ci : CK := .i .i64
abbrev cw : CK := .i .u32
abbrev cb : CK := .b
def reps {α : Type} : Nat → α → List α
  | 0, _ => []
  | n + 1, a => a :: reps n a
def hartC : List CK := [cu, ci] ++ reps 62 cu ++ [cb, cu]
def hartR : List (Int × Int) := [U, R 3] ++ reps 62 U ++ [BB, U]
def csrC : List CK := reps 30 cu
def csrR : List (Int × Int) := reps 30 U
def envC : List CK := [cu, cu, cu, cu, cu, cu, cu, cb, cu, cb]
def envR : List (Int × Int) := [U, U, U, U, U, U, U, BB, U, BB]
def instC : List CK := [ci, ci, ci, ci, ci, cu, ci, cb, cb, cb, ci]
def instR : List (Int × Int) := [R 22, R 31, R 31, R 31, R 31, U, R 8, BB, BB, BB, R 4095]
def recC : List CK := [cu, cu, cw, cb, cu, cu, ci, cu, ci, cu, ci, cu]
def wantC : List CK := [cu, ci, ci, cu, cb, ci, cb] ++ hartC
def wantR : List (Int × Int) := [U, R 8, R 3, U, BB, R 40, BB] ++ hartR
def gotC : List CK := [ci, cu, cb, cu, cu, cu, cb, cb, cb]
def gotR : List (Int × Int) := [R 3, R 64, BB, U, U, U, BB, BB, BB]
def workC : List CK := instC ++ [cw, cu, cu, cu] ++ gotC
def workR : List (Int × Int) := instR ++ [U32, U, U, U] ++ gotR
/-- what a hart that may be is: its place, register 0, what is reserved, its control registers; Priv (0, 1, 3), Satp, Res last -/
def mayK : Ks := [
  (.cmp .eql (.pl .add (.pl .rem (.pl .quo (vu 52) (ln 2)) (ln 2)) (.pl .mul (.pl .quo (vu 52) (ln 128)) (ln 2))) (ln 0), true),
  (.cmp .eql (.pl .rem (.pl .quo (vu 49) (ln 64)) (ln 144115188075855872)) (ln 0), true),
  (.cmp .eql (.pl .rem (.pl .quo (vu 43) (ln 64)) (ln 144115188075855872)) (ln 0), true),
  (.cmp .eql (.pl .rem (vu 48) (ln 4)) (ln 0), true),
  (.cmp .eql (.pl .rem (vu 42) (ln 4)) (ln 0), true),
  (.cmp .eql (.pl .quo (vu 46) (ln 128)) (ln 0), true),
  (.cmp .eql (.pl .quo (vu 40) (ln 128)) (ln 0), true),
  (.cmp .neq (.pl .rem (.pl .quo (vu 45) (ln 2)) (ln 2)) (ln 1), true),
  (.cmp .neq (.pl .rem (.pl .quo (vu 39) (ln 2)) (ln 2)) (ln 1), true),
  (.cmp .eql (.pl .add (.pl .add (.pl .add (.pl .rem (vu 38) (ln 2)) (.pl .mul (.pl .rem (.pl .quo (vu 38) (ln 4)) (ln 8)) (ln 2))) (.pl .mul (.pl .rem (.pl .quo (vu 38) (ln 64)) (ln 8)) (ln 16))) (.pl .mul (.pl .quo (vu 38) (ln 1024)) (ln 128))) (ln 0), true),
  (.cmp .eql (.pl .add (.pl .add (.pl .add (.pl .add (.pl .add (.pl .add (.pl .rem (vu 37) (ln 2)) (.pl .mul (.pl .rem (.pl .quo (vu 37) (ln 4)) (ln 2)) (ln 2))) (.pl .mul (.pl .rem (.pl .quo (vu 37) (ln 16)) (ln 2)) (ln 4))) (.pl .mul (.pl .rem (.pl .quo (vu 37) (ln 64)) (ln 2)) (ln 8))) (.pl .mul (.pl .rem (.pl .quo (vu 37) (ln 256)) (ln 2)) (ln 16))) (.pl .mul (.pl .rem (.pl .quo (vu 37) (ln 1024)) (ln 2)) (ln 32))) (.pl .mul (.pl .quo (vu 37) (ln 4096)) (ln 64))) (ln 0), true),
  (.cmp .eql (.pl .add (.pl .add (.pl .add (.pl .rem (vu 36) (ln 2)) (.pl .mul (.pl .rem (.pl .quo (vu 36) (ln 4)) (ln 8)) (ln 2))) (.pl .mul (.pl .rem (.pl .quo (vu 36) (ln 64)) (ln 8)) (ln 16))) (.pl .mul (.pl .quo (vu 36) (ln 1024)) (ln 128))) (ln 0), true),
  (.cmp .eql (.pl .add (.pl .add (.pl .rem (.pl .quo (vu 35) (ln 1024)) (ln 4)) (.pl .mul (.pl .rem (.pl .quo (vu 35) (ln 16384)) (ln 2)) (ln 4))) (.pl .mul (.pl .quo (vu 35) (ln 65536)) (ln 8))) (ln 0), true),
  (.cmp .eql (.pl .add (.pl .add (.pl .add (.pl .add (.pl .add (.pl .add (.pl .rem (vu 34) (ln 2)) (.pl .mul (.pl .rem (.pl .quo (vu 34) (ln 4)) (ln 2)) (ln 2))) (.pl .mul (.pl .rem (.pl .quo (vu 34) (ln 16)) (ln 2)) (ln 4))) (.pl .mul (.pl .rem (.pl .quo (vu 34) (ln 64)) (ln 2)) (ln 8))) (.pl .mul (.pl .rem (.pl .quo (vu 34) (ln 512)) (ln 4)) (ln 16))) (.pl .mul (.pl .rem (.pl .quo (vu 34) (ln 8192)) (ln 16)) (ln 64))) (.pl .mul (.pl .quo (vu 34) (ln 8388608)) (ln 1024))) (ln 0), true),
  (.cmp .eql (.pl .rem (.pl .quo (vu 34) (ln 2048)) (ln 4)) (ln 2), false),
  (.cmp .gtr (vu 59) (ln 5), false),
  (.cmp .gtr (vu 58) (ln 5), false),
  (.cmp .gtr (vu 57) (ln 5), false),
  (.cmp .gtr (vu 56) (ln 5), false),
  (.cmp .eql (.pl .rem (vu 65) (ln 8)) (ln 0), true),
  (.cmp .eql (vu 2) (ln 0), true),
  (.cmp .eql (.pl .rem (vu 0) (ln 4)) (ln 0), true),
  (.cmp .eql (.var (.ofNat 0) (.ofNat 3) 1) (ln 2), false),
  (.ite (.cmp .eql (.pl .quo (vu 51) (ln 1152921504606846976)) (ln 0)) (.tt true) (.cmp .eql (.pl .quo (vu 51) (ln 1152921504606846976)) (ln 8)), true),
  (.ite (.cmp .eql (.var (.ofNat 0) (.ofNat 1) 64) (ln 1)) (.tt true) (.cmp .eql (vu 65) (ln 0)), true)]
end Go.Proofs.YtkogjjeoihnjpaaGreat.Sx
end
