/- Control registers that may be: of a hart's, of their own (from 0 on), behind one number more. No condition. -/
import Derived.Test.YtkogjjeoihnjpaaGreatPack8
section
set_option linter.unusedVariables false
namespace Go.Proofs.YtkogjjeoihnjpaaGreat.Sx
open Go
def csrK : Ks := [
  (.cmp .eql (.pl .add (.pl .rem (.pl .quo (vu 18) (ln 2)) (ln 2)) (.pl .mul (.pl .quo (vu 18) (ln 128)) (ln 2))) (ln 0), true),
  (.cmp .eql (.pl .rem (.pl .quo (vu 15) (ln 64)) (ln 144115188075855872)) (ln 0), true),
  (.cmp .eql (.pl .rem (.pl .quo (vu 9) (ln 64)) (ln 144115188075855872)) (ln 0), true),
  (.cmp .eql (.pl .rem (vu 14) (ln 4)) (ln 0), true),
  (.cmp .eql (.pl .rem (vu 8) (ln 4)) (ln 0), true),
  (.cmp .eql (.pl .quo (vu 12) (ln 128)) (ln 0), true),
  (.cmp .eql (.pl .quo (vu 6) (ln 128)) (ln 0), true),
  (.cmp .neq (.pl .rem (.pl .quo (vu 11) (ln 2)) (ln 2)) (ln 1), true),
  (.cmp .neq (.pl .rem (.pl .quo (vu 5) (ln 2)) (ln 2)) (ln 1), true),
  (.cmp .eql (.pl .add (.pl .add (.pl .add (.pl .rem (vu 4) (ln 2)) (.pl .mul (.pl .rem (.pl .quo (vu 4) (ln 4)) (ln 8)) (ln 2))) (.pl .mul (.pl .rem (.pl .quo (vu 4) (ln 64)) (ln 8)) (ln 16))) (.pl .mul (.pl .quo (vu 4) (ln 1024)) (ln 128))) (ln 0), true),
  (.cmp .eql (.pl .add (.pl .add (.pl .add (.pl .add (.pl .add (.pl .add (.pl .rem (vu 3) (ln 2)) (.pl .mul (.pl .rem (.pl .quo (vu 3) (ln 4)) (ln 2)) (ln 2))) (.pl .mul (.pl .rem (.pl .quo (vu 3) (ln 16)) (ln 2)) (ln 4))) (.pl .mul (.pl .rem (.pl .quo (vu 3) (ln 64)) (ln 2)) (ln 8))) (.pl .mul (.pl .rem (.pl .quo (vu 3) (ln 256)) (ln 2)) (ln 16))) (.pl .mul (.pl .rem (.pl .quo (vu 3) (ln 1024)) (ln 2)) (ln 32))) (.pl .mul (.pl .quo (vu 3) (ln 4096)) (ln 64))) (ln 0), true),
  (.cmp .eql (.pl .add (.pl .add (.pl .add (.pl .rem (vu 2) (ln 2)) (.pl .mul (.pl .rem (.pl .quo (vu 2) (ln 4)) (ln 8)) (ln 2))) (.pl .mul (.pl .rem (.pl .quo (vu 2) (ln 64)) (ln 8)) (ln 16))) (.pl .mul (.pl .quo (vu 2) (ln 1024)) (ln 128))) (ln 0), true),
  (.cmp .eql (.pl .add (.pl .add (.pl .rem (.pl .quo (vu 1) (ln 1024)) (ln 4)) (.pl .mul (.pl .rem (.pl .quo (vu 1) (ln 16384)) (ln 2)) (ln 4))) (.pl .mul (.pl .quo (vu 1) (ln 65536)) (ln 8))) (ln 0), true),
  (.cmp .eql (.pl .add (.pl .add (.pl .add (.pl .add (.pl .add (.pl .add (.pl .rem (vu 0) (ln 2)) (.pl .mul (.pl .rem (.pl .quo (vu 0) (ln 4)) (ln 2)) (ln 2))) (.pl .mul (.pl .rem (.pl .quo (vu 0) (ln 16)) (ln 2)) (ln 4))) (.pl .mul (.pl .rem (.pl .quo (vu 0) (ln 64)) (ln 2)) (ln 8))) (.pl .mul (.pl .rem (.pl .quo (vu 0) (ln 512)) (ln 4)) (ln 16))) (.pl .mul (.pl .rem (.pl .quo (vu 0) (ln 8192)) (ln 16)) (ln 64))) (.pl .mul (.pl .quo (vu 0) (ln 8388608)) (ln 1024))) (ln 0), true),
  (.cmp .eql (.pl .rem (.pl .quo (vu 0) (ln 2048)) (ln 4)) (ln 2), false),
  (.cmp .gtr (vu 25) (ln 5), false),
  (.cmp .gtr (vu 24) (ln 5), false),
  (.cmp .gtr (vu 23) (ln 5), false),
  (.cmp .gtr (vu 22) (ln 5), false),
  (.ite (.cmp .eql (.pl .quo (vu 17) (ln 1152921504606846976)) (ln 0)) (.tt true) (.cmp .eql (.pl .quo (vu 17) (ln 1152921504606846976)) (ln 8)), true)]
/-- the same, behind the value that was read -/
def csrK1 : Ks := [
  (.cmp .eql (.pl .add (.pl .rem (.pl .quo (vu 19) (ln 2)) (ln 2)) (.pl .mul (.pl .quo (vu 19) (ln 128)) (ln 2))) (ln 0), true),
  (.cmp .eql (.pl .rem (.pl .quo (vu 16) (ln 64)) (ln 144115188075855872)) (ln 0), true),
  (.cmp .eql (.pl .rem (.pl .quo (vu 10) (ln 64)) (ln 144115188075855872)) (ln 0), true),
  (.cmp .eql (.pl .rem (vu 15) (ln 4)) (ln 0), true),
  (.cmp .eql (.pl .rem (vu 9) (ln 4)) (ln 0), true),
  (.cmp .eql (.pl .quo (vu 13) (ln 128)) (ln 0), true),
  (.cmp .eql (.pl .quo (vu 7) (ln 128)) (ln 0), true),
  (.cmp .neq (.pl .rem (.pl .quo (vu 12) (ln 2)) (ln 2)) (ln 1), true),
  (.cmp .neq (.pl .rem (.pl .quo (vu 6) (ln 2)) (ln 2)) (ln 1), true),
  (.cmp .eql (.pl .add (.pl .add (.pl .add (.pl .rem (vu 5) (ln 2)) (.pl .mul (.pl .rem (.pl .quo (vu 5) (ln 4)) (ln 8)) (ln 2))) (.pl .mul (.pl .rem (.pl .quo (vu 5) (ln 64)) (ln 8)) (ln 16))) (.pl .mul (.pl .quo (vu 5) (ln 1024)) (ln 128))) (ln 0), true),
  (.cmp .eql (.pl .add (.pl .add (.pl .add (.pl .add (.pl .add (.pl .add (.pl .rem (vu 4) (ln 2)) (.pl .mul (.pl .rem (.pl .quo (vu 4) (ln 4)) (ln 2)) (ln 2))) (.pl .mul (.pl .rem (.pl .quo (vu 4) (ln 16)) (ln 2)) (ln 4))) (.pl .mul (.pl .rem (.pl .quo (vu 4) (ln 64)) (ln 2)) (ln 8))) (.pl .mul (.pl .rem (.pl .quo (vu 4) (ln 256)) (ln 2)) (ln 16))) (.pl .mul (.pl .rem (.pl .quo (vu 4) (ln 1024)) (ln 2)) (ln 32))) (.pl .mul (.pl .quo (vu 4) (ln 4096)) (ln 64))) (ln 0), true),
  (.cmp .eql (.pl .add (.pl .add (.pl .add (.pl .rem (vu 3) (ln 2)) (.pl .mul (.pl .rem (.pl .quo (vu 3) (ln 4)) (ln 8)) (ln 2))) (.pl .mul (.pl .rem (.pl .quo (vu 3) (ln 64)) (ln 8)) (ln 16))) (.pl .mul (.pl .quo (vu 3) (ln 1024)) (ln 128))) (ln 0), true),
  (.cmp .eql (.pl .add (.pl .add (.pl .rem (.pl .quo (vu 2) (ln 1024)) (ln 4)) (.pl .mul (.pl .rem (.pl .quo (vu 2) (ln 16384)) (ln 2)) (ln 4))) (.pl .mul (.pl .quo (vu 2) (ln 65536)) (ln 8))) (ln 0), true),
  (.cmp .eql (.pl .add (.pl .add (.pl .add (.pl .add (.pl .add (.pl .add (.pl .rem (vu 1) (ln 2)) (.pl .mul (.pl .rem (.pl .quo (vu 1) (ln 4)) (ln 2)) (ln 2))) (.pl .mul (.pl .rem (.pl .quo (vu 1) (ln 16)) (ln 2)) (ln 4))) (.pl .mul (.pl .rem (.pl .quo (vu 1) (ln 64)) (ln 2)) (ln 8))) (.pl .mul (.pl .rem (.pl .quo (vu 1) (ln 512)) (ln 4)) (ln 16))) (.pl .mul (.pl .rem (.pl .quo (vu 1) (ln 8192)) (ln 16)) (ln 64))) (.pl .mul (.pl .quo (vu 1) (ln 8388608)) (ln 1024))) (ln 0), true),
  (.cmp .eql (.pl .rem (.pl .quo (vu 1) (ln 2048)) (ln 4)) (ln 2), false),
  (.cmp .gtr (vu 26) (ln 5), false),
  (.cmp .gtr (vu 25) (ln 5), false),
  (.cmp .gtr (vu 24) (ln 5), false),
  (.cmp .gtr (vu 23) (ln 5), false),
  (.ite (.cmp .eql (.pl .quo (vu 18) (ln 1152921504606846976)) (ln 0)) (.tt true) (.cmp .eql (.pl .quo (vu 18) (ln 1152921504606846976)) (ln 8)), true)]
end Go.Proofs.YtkogjjeoihnjpaaGreat.Sx
end
