/- What pma.May and Device say, as facts behind their answers. No condition. The document's machine: words read and stored, as contracts of a run on terms; where that may be is known of the place. No condition. The document's functions of an access answer as the program's. No condition. -/
import Derived.Test.YtkogjjeoihnjpaaGreatPack11
import Derived.Test.YtkogjjeoihnjpaaGreatPack16
import Derived.KernelRfl
import Derived.Test.YtkogjjeoihnjpaaGreatPack15
import Derived.Test.YtkogjjeoihnjpaaGreatPack8
import Derived.Test.YtkogjjeoihnjpaaGreatPack9
import Derived.Test.YtkogjjeoihnjpaaGreatPack10
section
set_option linter.unusedVariables false
set_option linter.unusedSimpArgs false
namespace Go.Proofs.YtkogjjeoihnjpaaGreat
open Go Go.RowKit Sx
set_option maxRecDepth 100000
/-- an address of a device -/
def isDev (n : Nat) (x : Int) : Bool := (pmaFind n x).1 == 2 || (pmaFind n x).1 == 3 || (pmaFind n x).1 == 4
/-- between the devices' bounds -/
def DevAt (x : Int) : Prop := (33554432 ≤ x ∧ x < 33619968) ∨ (201326592 ≤ x ∧ x < 205520896) ∨ (268435456 ≤ x ∧ x < 268439552)
theorem isDev_at {n : Nat} {x : Int} (h : isDev n x = false) : ¬ DevAt x := by
  intro hd
  have h2 : (pmaFind n x).1 = 2 ∨ (pmaFind n x).1 = 3 ∨ (pmaFind n x).1 = 4 := by
    unfold pmaFind
    rcases hd with hd | hd | hd
    · left; rw [if_neg (by omega), if_pos (by omega)]
    · right; left; rw [if_neg (by omega), if_neg (by omega), if_pos (by omega)]
    · right; right; rw [if_neg (by omega), if_neg (by omega), if_neg (by omega), if_pos (by omega)]
  unfold isDev at h
  rcases h2 with h2 | h2 | h2 <;> rw [h2] at h <;> exact absurd h (by decide)
theorem mayAny_says {n : Nat} {x size kind : Int} {at_ : Bool} (hs : size = 1 ∨ size = 2 ∨ size = 4 ∨ size = 8) (h : mayAny n x size kind at_ = true) :
    4096 ≤ x ∧ (DevAt x ∨ x < 8192 ∨ 2147483648 ≤ x) ∧ (8192 ≤ x ∨ x + size ≤ 8192) ∧ (x < 2147483648 ∨ x < 2147483648 + 4096 * (n : Int)) ∧ (kind ≠ 2 ∨ 8192 ≤ x) ∧ (kind ≠ 0 ∨ ¬ DevAt x) ∧ (at_ ≠ true ∨ ¬ DevAt x) := by
  unfold mayAny pmaFind at h
  unfold DevAt
  rw [IntKind.wrap_u64] at h
  cases at_ <;> simp only [ne_eq, Bool.false_eq_true, not_false_eq_true, true_or, and_true, not_true_eq_false, false_or]
  all_goals
    repeat' (first | split at h)
    all_goals simp at h
    all_goals omega
set_option maxHeartbeats 4000000 in
theorem pma_may_no (n x size kind : Int) (at_ : Bool) (h1 : size ≠ 1) (h2 : size ≠ 2) (h4 : size ≠ 4) (h8 : size ≠ 8) (w : World) :
    Calls Tryz.prog 148 #[.int .i64 n, .int .u64 x, .int .i64 size, .int .i64 kind, .bool at_] w (Gives (.bool false) w) := by
  have e1 : (size == 1) = false := by simpa using h1
  have e2 : (size == 2) = false := by simpa using h2
  have e4 : (size == 4) = false := by simpa using h4
  have e8 : (size == 8) = false := by simpa using h8
  clear h1 h2 h4 h8
  go_enter Tryz.func148, Tryz.ntmps148
  go_wp2
  go_ret
  exact ⟨rfl, Below.refl _ _⟩
set_option maxHeartbeats 4000000 in
theorem pma_device (n : Nat) (h4 : 4 ≤ n) (h256 : n ≤ 256) (x : Int) (h0 : 0 ≤ x) (h1 : x < 18446744073709551616) (w : World) :
    Calls Tryz.prog 62 #[.int .i64 n, .int .u64 x] w (Gives (.bool (isDev n x)) w) := by
  have F := Lib.hid (pma_region n h4 h256 x h0 h1)
  clear h0 h1
  unfold isDev
  generalize (pmaFind n x).1 = K at *
  cases e2 : (K == 2) <;> cases e3 : (K == 3) <;> cases e4 : (K == 4)
  all_goals
    go_enter Tryz.func62, Tryz.ntmps62
    go_wp2_with fail
    refine (F.out _).mono ?_
    rintro e w1 ⟨rfl, hb⟩
    have HB := Lib.hid hb
    clear hb
    go_wp2
    go_ret
    exact ⟨rfl, HB.out⟩
namespace Sx
noncomputable section
def impE (c e : E) : E := .ite c (.tt true) e
def ltE (a : E) (n : Nat) : E := .cmp .lss a (ln n)
def btwE (x : E) (l h : Nat) : E := .ite (ltE x l) (.tt false) (ltE x h)
/-- between the devices' bounds -/
def devE (x : E) : E := impE (btwE x 33554432 33619968) (impE (btwE x 201326592 205520896) (btwE x 268435456 268439552))
/-- where it is, unless c: x, size, kind, pages -/
def atK (c x s k n a : E) : Ks := [
  (impE c (.cmp .geq x (ln 4096)), true),
  (impE c (impE (devE x) (impE (ltE x 8192) (.cmp .geq x (ln 2147483648)))), true),
  (impE c (impE (.cmp .geq x (ln 8192)) (.cmp .leq (.pl .add x s) (ln 8192))), true),
  (impE c (impE (ltE x 2147483648) (.cmp .lss x (.pl .add (ln 2147483648) (.pl .mul (ln 4096) n)))), true),
  (impE c (impE (.cmp .neq k (ln 2)) (.cmp .geq x (ln 8192))), true),
  (impE c (impE (.cmp .neq k (ln 0)) (.no (devE x))), true),
  (impE c (impE (.cmp .neq a (ln 1)) (.no (devE x))), true)]
def pmmK : Ks := atK (.cmp .neq (.var (.ofNat 0) (.ofNat 1) 0) (ln 1)) (vu 2) (.var (.ofNat 0) (.ofNat 8) 3) (.var (.ofNat 0) (.ofNat 3) 4) (.var (.ofNat 4) (.ofNat 256) 1) (.var (.ofNat 0) (.ofNat 1) 5)
def devK : Ks := [(impE (.cmp .eql (.var (.ofNat 0) (.ofNat 1) 0) (ln 1)) (.no (devE (vu 2))), true)]
theorem tr_imp {V : Env} (c e : E) : (impE c e).tr V = (c.tr V || e.tr V) := by unfold impE; rw [tr_ite, tr_tt]; cases c.tr V <;> simp
theorem tr_impI {V : Env} (c e : E) : (impE c e).tr V = true ↔ (c.tr V = true ∨ e.tr V = true) := by rw [tr_imp, Bool.or_eq_true]
theorem den_ln {V : Env} (n : Nat) : (ln n).den V = n := rfl
theorem tr_geqI {V : Env} (a b : E) : (E.cmp .geq a b).tr V = true ↔ b.den V ≤ a.den V := decide_eq_true_iff
theorem tr_leqI {V : Env} (a b : E) : (E.cmp .leq a b).tr V = true ↔ a.den V ≤ b.den V := decide_eq_true_iff
theorem tr_lssI {V : Env} (a b : E) : (E.cmp .lss a b).tr V = true ↔ a.den V < b.den V := decide_eq_true_iff
theorem tr_eqlI {V : Env} (a b : E) : (E.cmp .eql a b).tr V = true ↔ a.den V = b.den V := beq_iff_eq
theorem tr_neqI {V : Env} (a b : E) : (E.cmp .neq a b).tr V = true ↔ a.den V ≠ b.den V := bne_iff_ne
theorem tr_ltI {V : Env} (a : E) (n : Nat) : (ltE a n).tr V = true ↔ a.den V < n := decide_eq_true_iff
theorem den_addI {V : Env} (a b : E) : (E.pl .add a b).den V = a.den V + b.den V := rfl
theorem den_mulI {V : Env} (a b : E) : (E.pl .mul a b).den V = a.den V * b.den V := rfl
theorem tr_btw {V : Env} (x : E) (l h : Nat) : (btwE x l h).tr V = true ↔ ((l : Int) ≤ x.den V ∧ x.den V < h) := by
  unfold btwE
  rw [tr_ite]
  by_cases h1 : (ltE x l).tr V = true
  · rw [if_pos h1]
    have := (tr_ltI x l).1 h1
    constructor
    · intro h; cases h
    · intro h; omega
  · rw [if_neg h1, tr_ltI]
    rw [tr_ltI] at h1
    omega
theorem tr_dev {V : Env} (x : E) : (devE x).tr V = true ↔ DevAt (x.den V) := by
  unfold devE DevAt
  rw [tr_impI, tr_impI, tr_btw, tr_btw, tr_btw]
  omega
theorem tr_neq1 {V : Env} (a : E) (n : Nat) : (E.cmp .neq a (ln n)).tr V = !decide (a.den V = n) := by
  simp only [ln, tr_cmp, den_lit, cmpD, Int.ofNat_eq_natCast, bne]
  rw [Bool.beq_eq_decide_eq]
theorem atK_ok {V : Env} {c x s k n a : E} (h : c.tr V = false → 4096 ≤ x.den V ∧ (DevAt (x.den V) ∨ x.den V < 8192 ∨ 2147483648 ≤ x.den V) ∧ (8192 ≤ x.den V ∨ x.den V + s.den V ≤ 8192) ∧ (x.den V < 2147483648 ∨ x.den V < 2147483648 + 4096 * n.den V) ∧ (k.den V ≠ 2 ∨ 8192 ≤ x.den V) ∧ (k.den V ≠ 0 ∨ ¬ DevAt (x.den V)) ∧ (a.den V ≠ 1 ∨ ¬ DevAt (x.den V))) : KsOk V (atK c x s k n a) := by
  cases hc : c.tr V with
  | true =>
    intro q hq
    simp only [atK, List.mem_cons, List.not_mem_nil, or_false] at hq
    rcases hq with rfl | rfl | rfl | rfl | rfl | rfl | rfl <;> simp only [tr_imp, hc, Bool.true_or]
  | false =>
    obtain ⟨h1, h2, h3, h4, h5, h6, h7⟩ := h hc
    have hno : ¬ DevAt (x.den V) → (E.no (devE x)).tr V = true := fun hd => by rw [tr_no, Bool.not_eq_true', Bool.eq_false_iff]; exact fun hh => hd ((tr_dev x).1 hh)
    intro q hq
    simp only [atK, List.mem_cons, List.not_mem_nil, or_false] at hq
    rcases hq with rfl | rfl | rfl | rfl | rfl | rfl | rfl
    · refine (tr_impI _ _).2 (.inr ((tr_geqI _ _).2 ?_)); rw [den_ln]; omega
    · refine (tr_impI _ _).2 (.inr ?_); rw [tr_impI, tr_dev, tr_impI, tr_ltI, tr_geqI, den_ln]; omega
    · refine (tr_impI _ _).2 (.inr ?_); rw [tr_impI, tr_geqI, tr_leqI, den_addI, den_ln]; omega
    · refine (tr_impI _ _).2 (.inr ?_); rw [tr_impI, tr_ltI, tr_lssI, den_addI, den_mulI, den_ln, den_ln]; omega
    · refine (tr_impI _ _).2 (.inr ?_); rw [tr_impI, tr_neqI, tr_geqI, den_ln, den_ln]; omega
    · rw [tr_imp, hc, Bool.false_or, tr_imp, tr_neq1]
      rcases h6 with h6 | h6
      · rw [decide_eq_false (by simpa using h6)]; rfl
      · rw [hno h6, Bool.or_true]
    · rw [tr_imp, hc, Bool.false_or, tr_imp, tr_neq1]
      rcases h7 with h7 | h7
      · rw [decide_eq_false (by simpa using h7)]; rfl
      · rw [hno h7, Bool.or_true]
theorem one_list {l : List Int} (h : InB [BB] l) : ∃ m, l = [m] ∧ (m = 0 ∨ m = 1) := by
  match l, h with
  | [m], h =>
    have := h.2 0 BB m rfl rfl
    have h1 : (0 : Int) ≤ m := this.1
    have h2 : m ≤ (1 : Int) := this.2
    exact ⟨m, rfl, by omega⟩
  | [], h => exact absurd h.1 (by simp)
  | _ :: _ :: _, h => exact absurd h.1 (by simp)
theorem five {l : List Int} (h : l.length = 5) : ∃ a b c d e, l = [a, b, c, d, e] := by
  match l, h with
  | [a, b, c, d, e], _ => exact ⟨a, b, c, d, e, rfl⟩
theorem two {l : List Int} (h : l.length = 2) : ∃ a b, l = [a, b] := by
  match l, h with
  | [a, b], _ => exact ⟨a, b, rfl⟩
theorem pmm_tells : Tells Tryz.prog 148 [.one ci, .one cu, .one ci, .one ci, .one cb] pmmRs [] (.one (.one cb)) [BB] pmmK pmmF := fun args hi hk w => by
  obtain ⟨⟨k1, _⟩, k2⟩ := pmm_tells0 args hi hk w
  refine ⟨⟨k1, ?_⟩, k2⟩
  obtain ⟨m, hm, hm01⟩ := one_list k1
  rw [hm] at k2 ⊢
  obtain ⟨n, x, size, kind, at_, rfl⟩ := five hi.1
  have bn := inB_get hi (i := 0) rfl
  have bx := inB_get hi (i := 1) rfl
  have bk := inB_get hi (i := 3) rfl
  have n4 : (4 : Int) ≤ n := bn.1
  have n256 : n ≤ (256 : Int) := bn.2
  have x0 : (0 : Int) ≤ x := bx.1
  have x1 : x ≤ (18446744073709551615 : Int) := bx.2
  have d0 : (0 : Int) ≤ kind := bk.1
  have d3 : kind ≤ (3 : Int) := bk.2
  obtain ⟨N, rfl⟩ : ∃ N : Nat, n = N := ⟨n.toNat, by omega⟩
  refine atK_ok fun hc => ?_
  rw [tr_neq1] at hc
  have hm1 : m = 1 := by
    have e : (env0 ([m] ++ [(N : Int), x, size, kind, at_])).i 0 = m := rfl
    rw [den_var, e] at hc
    simpa using hc
  subst hm1
  show 4096 ≤ x ∧ (DevAt x ∨ x < 8192 ∨ 2147483648 ≤ x) ∧ (8192 ≤ x ∨ x + size ≤ 8192) ∧ (x < 2147483648 ∨ x < 2147483648 + 4096 * (N : Int)) ∧ (kind ≠ 2 ∨ 8192 ≤ x) ∧ (kind ≠ 0 ∨ ¬ DevAt x) ∧ (at_ ≠ 1 ∨ ¬ DevAt x)
  have k3 : Calls Tryz.prog 148 #[.int .i64 N, .int .u64 x, .int .i64 size, .int .i64 kind, .bool (decide (at_ = 1))] w (Gives (.bool true) w) := k2
  by_cases hs : size = 1 ∨ size = 2 ∨ size = 4 ∨ size = 8
  · have k4 := pma_may_any N (by omega) (by omega) x x0 (by omega) size kind hs (by omega) (decide (at_ = 1)) w
    have e := gives_unique k3 k4 (by kernel_rfl)
    injection e with e
    have := mayAny_says hs e.symm
    simp only [ne_eq, decide_eq_true_eq] at this
    exact this
  · have k4 := pma_may_no N x size kind (decide (at_ = 1)) (by omega) (by omega) (by omega) (by omega) w
    have e := gives_unique k3 k4 (by kernel_rfl)
    injection e with e
    cases e
def pmmO : Orc := tellOrc 148 30 [.one ci, .one cu, .one ci, .one ci, .one cb] pmmRs [] (.one (.one cb)) [BB] pmmK
theorem pmmO_ok (X : Ext) (ft : Ft) (h : ft 30 = pmmF) : OrcOk Tryz.prog X ft pmmO := tellOrc_ok (by kernel_rfl) (by kernel_rfl) (by rw [h]; exact pmm_tells)
theorem dev_tells : Tells Tryz.prog 62 [.one ci, .one cu] devRs [] (.one (.one cb)) [BB] devK devF := fun args hi hk w => by
  obtain ⟨⟨k1, _⟩, k2⟩ := dev_tells0 args hi hk w
  refine ⟨⟨k1, ?_⟩, k2⟩
  obtain ⟨m, hm, hm01⟩ := one_list k1
  rw [hm] at k2 ⊢
  obtain ⟨n, x, rfl⟩ := two hi.1
  have bn := inB_get hi (i := 0) rfl
  have bx := inB_get hi (i := 1) rfl
  have n4 : (4 : Int) ≤ n := bn.1
  have n256 : n ≤ (256 : Int) := bn.2
  have x0 : (0 : Int) ≤ x := bx.1
  have x1 : x ≤ (18446744073709551615 : Int) := bx.2
  obtain ⟨N, rfl⟩ : ∃ N : Nat, n = N := ⟨n.toNat, by omega⟩
  have k3 : Calls Tryz.prog 62 #[.int .i64 N, .int .u64 x] w (Gives (.bool (decide (m = 1))) w) := k2
  have e := gives_unique k3 (pma_device N (by omega) (by omega) x x0 (by omega) w) (by kernel_rfl)
  have e := Value.bool.inj e
  intro q hq
  rw [List.mem_singleton.1 (show q ∈ [_] from hq)]
  show (impE (.cmp .eql (.var (.ofNat 0) (.ofNat 1) 0) (ln 1)) (.no (devE (vu 2)))).tr _ = true
  have hv2 : (vu 2).den (env0 ([m] ++ [(N : Int), x])) = x := rfl
  have hv0 : (E.var (.ofNat 0) (.ofNat 1) 0).den (env0 ([m] ++ [(N : Int), x])) = m := rfl
  rw [tr_impI, tr_eqlI, hv0, den_ln, tr_no, Bool.not_eq_true']
  by_cases hm1 : m = 1
  · left; rw [hm1]; rfl
  · right
    rw [decide_eq_false hm1] at e
    have hna := isDev_at e.symm
    rw [Bool.eq_false_iff]
    intro h
    have h2 := (tr_dev _).1 h
    rw [hv2] at h2
    exact hna h2
theorem isDev_no {n : Nat} {x : Int} (h : ¬ DevAt x) : isDev n x = false := by
  unfold DevAt at h
  have h2 : (pmaFind n x).1 = 0 ∨ (pmaFind n x).1 = 1 ∨ (pmaFind n x).1 = 5 := by
    unfold pmaFind
    by_cases h1 : 4096 ≤ x ∧ x < 8192
    · right; left; rw [if_pos h1]
    · rw [if_neg h1, if_neg (by omega), if_neg (by omega), if_neg (by omega)]
      split
      · right; right; rfl
      · left; rfl
  unfold isDev
  rcases h2 with h2 | h2 | h2 <;> rw [h2] <;> rfl
/-- where it is known that there is none, it is said at once -/
def devOrc (f0 : FuncId) : Orc := fun f args hp =>
  bif Nat.beq f f0 then
    match args with
    | [.pv (.one (.int .i64 n)), .pv (.one (.int .u64 x))] => bif inRs hp.gh.k devRs [n, x] then (bif holdsB hp.gh.k [n, x] [(.no (devE (vu 1)), true)] then some (.ret (.pv (.one (.bool (.tt false))), hp)) else tellOrc f0 31 [.one ci, .one cu] devRs [] (.one (.one cb)) [BB] devK f args hp) else some (.bad "device where")
    | _ => some (.bad "device")
  else none
theorem devOrc_ok {g : FuncId} (hg : Tryz.prog.inits.idxOf? g = none) (hd : Tells Tryz.prog g [.one ci, .one cu] devRs [] (.one (.one cb)) [BB] devK devF) (X : Ext) (ft : Ft) (hft : ft 31 = devF) : OrcOk Tryz.prog X ft (devOrc g) := by
  intro f args hp t h0 C w vs hC h hv
  unfold devOrc at h0
  cases hb : Nat.beq f g with
  | false => rw [hb, cond_false] at h0; cases h0
  | true =>
    rw [hb, cond_true] at h0
    have hff : f = g := Nat.eq_of_beq_eq_true hb
    subst hff
    split at h0
    · rename_i n x
      cases hin : inRs hp.gh.k devRs [n, x] with
      | false => rw [hin, cond_false] at h0; cases h0; exact CallOk.bad
      | true =>
        rw [hin, cond_true] at h0
        cases hce : holdsB hp.gh.k [n, x] [(.no (devE (vu 1)), true)] with
        | false =>
          rw [hce, cond_false] at h0
          exact tellOrc_ok (by kernel_rfl) (by kernel_rfl) (by rw [hft]; exact hd) f _ hp t h0 C w vs hC h hv
        | true =>
          rw [hce, cond_true] at h0
          cases h0
          cases hv with
          | @cons _ v1 _ vs1 q1 q2 =>
          cases q2 with
          | @cons _ v2 _ vs2 q2 q3 =>
          cases q3
          obtain ⟨s1, rfl⟩ := q1
          obtain ⟨s2, rfl⟩ := q2
          have hsc : ∀ y ∈ [n, x], y.sc C.V C.vd := fun y hy => by
            rcases List.mem_cons.1 hy with rfl | hy
            · exact s1
            · rw [List.mem_singleton.1 hy]; exact s2
          have hI := inRs_ok h.ks hin hsc
          have hcs := holdsB_ok (rs := devRs) (d := C.vd) h.ks (σ := [n, x]) hsc rfl (by kernel_rfl) hce _ List.mem_cons_self
          rw [tr_no, Bool.not_eq_true'] at hcs
          have hna : ¬ DevAt (x.den C.V) := fun hd => by
            have : (devE (vu 1)).tr (env0 ([n, x].map (E.den C.V))) = true := (tr_dev (vu 1)).2 hd
            rw [this] at hcs; cases hcs
          have bn := inB_get hI (i := 0) rfl
          have bx := inB_get hI (i := 1) rfl
          have n4 : (4 : Int) ≤ n.den C.V := bn.1
          have n256 : n.den C.V ≤ (256 : Int) := bn.2
          have x0 : (0 : Int) ≤ x.den C.V := bx.1
          have x1 : x.den C.V ≤ (18446744073709551615 : Int) := bx.2
          obtain ⟨N, hN⟩ : ∃ N : Nat, n.den C.V = N := ⟨(n.den C.V).toNat, by omega⟩
          have k1 := (dev_tells0 _ hI (fun q hq => by cases hq) w).2
          have k2 := pma_device N (by omega) (by omega) (x.den C.V) x0 (by omega) w
          rw [← hN, isDev_no hna] at k2
          have e := gives_unique k1 k2 (by kernel_rfl)
          have k3 := (hd _ hI (fun q hq => by cases hq) w).2
          rw [e] at k3
          intro Φ hx
          refine k3.mono ?_
          rintro e' w' ⟨rfl, hbel⟩
          obtain ⟨q1, q2⟩ := h.below' hbel
          exact ⟨C, _, .pv (.one (.bool (.tt false))), hp, rfl, ⟨trivial, rfl⟩, q1, q2, hx⟩
    · cases h0; exact CallOk.bad
def devO : Orc := devOrc 62
theorem devO_ok (X : Ext) (ft : Ft) (h : ft 31 = devF) : OrcOk Tryz.prog X ft devO := devOrc_ok (by kernel_rfl) dev_tells X ft h
end
end Sx
end Go.Proofs.YtkogjjeoihnjpaaGreat
end
section
set_option linter.unusedVariables false
set_option linter.unusedSimpArgs false
namespace Go.Proofs.YtkogjjeoihnjpaaGreat
open Go Go.RowKit Sx
theorem mayErr_k {n : Nat} {x : Int} {k : Nat} (hk : k = 1 ∨ k = 2 ∨ k = 4 ∨ k = 8) (h0 : 2147483648 ≤ x) (h1 : x < 2147483648 + 4096 * (n : Int)) (h8 : x % (k : Int) = 0) : mayErr n x k = 0 := by
  have h6 : isRam n x = true := by simp only [isRam, decide_eq_true_eq]; omega
  unfold mayErr
  rw [if_pos (by omega), if_pos h8, if_pos]
  unfold ramAll
  simp only [h6, Bool.true_and, Bool.or_eq_true, decide_eq_true_eq]
  right
  rcases hk with rfl | rfl | rfl | rfl <;> omega
namespace Sx
noncomputable section
/-- a place of memory, or of the ROM: x, k, pages -/
def certX : E := vu 0
def certK0 : Ks := [
  (impE (devE (vu 0)) (impE (ltE (vu 0) 8192) (.cmp .geq (vu 0) (ln 2147483648))), true),
  (.no (devE (vu 0)), true),
  (impE (ltE (vu 0) 2147483648) (.cmp .lss (vu 0) (.pl .add (ln 2147483648) (.pl .mul (ln 4096) (.var (.ofNat 4) (.ofNat 256) 2)))), true)]
def certL : Ks := certK0 ++ [(.cmp .geq (vu 0) (ln 4096), true), (impE (.cmp .geq (vu 0) (ln 8192)) (.cmp .leq (.pl .add (vu 0) (.var (.ofNat 0) (.ofNat 8) 1)) (ln 8192)), true)]
def certS : Ks := certK0 ++ [(.cmp .geq (vu 0) (ln 8192), true)]
/-- a multiple of k -/
def aliK (k : Nat) : Ks := if k = 1 then [] else [(.cmp .eql (.bin .rem .u64 (vu 0) (ln k)) (ln 0), true)]
def certRs : List (Int × Int) := [U, R 8, (.ofNat 4, .ofNat 256)]
theorem cert_plain {V : Env} {n : Nat} (hn : V.i 2 = n) (h : KsOk V certK0) : ¬ DevAt (V.i 0) ∧ (V.i 0 < 8192 ∨ 2147483648 ≤ V.i 0) ∧ (V.i 0 < 2147483648 ∨ V.i 0 < 2147483648 + 4096 * (n : Int)) := by
  have h1 := h _ (show _ ∈ certK0 from List.mem_cons_self)
  have h2 := h _ (show _ ∈ certK0 from List.mem_cons_of_mem _ List.mem_cons_self)
  have h3 := h _ (show _ ∈ certK0 from List.mem_cons_of_mem _ (List.mem_cons_of_mem _ List.mem_cons_self))
  have h2' : ¬ (devE (vu 0)).tr V = true := by
    intro hd
    rw [tr_no, hd] at h2
    cases h2
  have hd : ¬ DevAt (V.i 0) := fun hd => h2' ((tr_dev (vu 0)).2 hd)
  have h1 := (tr_impI _ _).1 h1
  rw [tr_impI, tr_ltI, tr_geqI, den_ln] at h1
  have h3 := (tr_impI _ _).1 h3
  rw [tr_ltI, tr_lssI, den_addI, den_mulI, den_ln, den_ln] at h3
  have e0 : (vu 0).den V = V.i 0 := rfl
  have e2 : (E.var (.ofNat 4) (.ofNat 256) 2).den V = n := hn
  rw [e0] at h1 h3
  rw [e2] at h3
  refine ⟨hd, ?_, ?_⟩
  · rcases h1 with h1 | h1 | h1
    · exact absurd h1 h2'
    · exact .inl h1
    · exact .inr h1
  · rcases h3 with h3 | h3
    · exact .inl h3
    · exact .inr h3
theorem ali_plain {V : Env} {k : Nat} (hk : k = 1 ∨ k = 2 ∨ k = 4 ∨ k = 8) (h0 : 0 ≤ V.i 0) (h : KsOk V (aliK k)) : V.i 0 % (k : Int) = 0 := by
  unfold aliK at h
  rcases hk with rfl | hk
  · omega
  · rw [if_neg (by omega)] at h
    have h1 := (tr_eqlI _ _).1 (h _ List.mem_cons_self)
    have h2 : (V.i 0).tmod (k : Int) = 0 := h1
    rw [Int.tmod_eq_emod_of_nonneg h0] at h2
    exact h2
theorem certL_says {V : Env} {n k : Nat} (hn : V.i 2 = n) (hkv : V.i 1 = k) (hk : k = 1 ∨ k = 2 ∨ k = 4 ∨ k = 8) (h0 : 0 ≤ V.i 0) (h : KsOk V (certL ++ aliK k)) : ((pmaFind n (V.i 0)).1 = 1 ∧ V.i 0 - 4096 + k ≤ 4096) ∨ mayErr n (V.i 0) k = 0 := by
  obtain ⟨c1, c2, c3⟩ := cert_plain hn (fun q hq => h q (List.mem_append_left _ (List.mem_append_left _ hq)))
  have ha := ali_plain hk h0 (fun q hq => h q (List.mem_append_right _ hq))
  have h4 := h _ (List.mem_append_left _ (List.mem_append_right _ List.mem_cons_self))
  have h5 := h _ (List.mem_append_left _ (List.mem_append_right _ (List.mem_cons_of_mem _ List.mem_cons_self)))
  have h4 : (4096 : Int) ≤ V.i 0 := (tr_geqI _ _).1 h4
  have h5 := (tr_impI _ _).1 h5
  rw [tr_geqI, tr_leqI, den_addI, den_ln, show (vu 0).den V = V.i 0 from rfl, show (E.var (.ofNat 0) (.ofNat 8) 1).den V = k from hkv] at h5
  by_cases hx : V.i 0 < 8192
  · left
    refine ⟨?_, by omega⟩
    unfold pmaFind
    rw [if_pos (by omega)]
  · right
    exact mayErr_k hk (by omega) (by omega) ha
theorem certS_says {V : Env} {n k : Nat} (hn : V.i 2 = n) (hk : k = 1 ∨ k = 2 ∨ k = 4 ∨ k = 8) (h0 : 0 ≤ V.i 0) (h : KsOk V (certS ++ aliK k)) : mayErr n (V.i 0) k = 0 := by
  obtain ⟨c1, c2, c3⟩ := cert_plain hn (fun q hq => h q (List.mem_append_left _ (List.mem_append_left _ hq)))
  have ha := ali_plain hk h0 (fun q hq => h q (List.mem_append_right _ hq))
  have h4 := h _ (List.mem_append_left _ (List.mem_append_right _ List.mem_cons_self))
  have h4 : (8192 : Int) ≤ V.i 0 := (tr_geqI _ _).1 h4
  exact mayErr_k hk (by omega) (by omega) ha
def isK (k : Nat) : Bool := bif Nat.beq k 1 then true else bif Nat.beq k 2 then true else bif Nat.beq k 4 then true else Nat.beq k 8
theorem isK_ok {k : Nat} (h : isK k = true) : k = 1 ∨ k = 2 ∨ k = 4 ∨ k = 8 := by
  unfold isK at h
  cases h1 : Nat.beq k 1 with
  | true => exact .inl (Nat.eq_of_beq_eq_true h1)
  | false =>
    rw [h1, cond_false] at h
    cases h2 : Nat.beq k 2 with
    | true => exact .inr (.inl (Nat.eq_of_beq_eq_true h2))
    | false =>
      rw [h2, cond_false] at h
      cases h4 : Nat.beq k 4 with
      | true => exact .inr (.inr (.inl (Nat.eq_of_beq_eq_true h4)))
      | false =>
        rw [h4, cond_false] at h
        exact .inr (.inr (.inr (Nat.eq_of_beq_eq_true h)))
theorem scTy_L : ∀ k, isK k = true → (certL ++ aliK k).all (fun q => scTy certRs true q.1) = true := by
  intro k hk
  rcases isK_ok hk with rfl | rfl | rfl | rfl <;> rfl
theorem scTy_S : ∀ k, isK k = true → (certS ++ aliK k).all (fun q => scTy certRs true q.1) = true := by
  intro k hk
  rcases isK_ok hk with rfl | rfl | rfl | rfl <;> rfl
section
variable {sb n : Nat} {ct : Nat → Nat} {px : Nat → Option Value} {r0 : Nat} {ft : Ft}
/-! ### bytes -/
def bytesOrc (f0 : FuncId) (r0 : Nat) : Orc := fun f args hp =>
  bif Nat.beq f f0 then
    match args with
    | [p, .pv (.one (.int .u64 x)), .pv (.one (.int .i64 (.lit (.ofNat k))))] => bif refRow hp r0 p then (match hp.gh.m with
      | n :: r => bif isK k then (bif inRs hp.gh.k [U] [x] then (bif holdsB hp.gh.k [x, .lit (.ofNat k), n] (certL ++ aliK k) then some (xlets hp 3 (n :: x :: .lit (.ofNat k) :: r) [U] (fun _ => []) fun vs hp => match vs with
        | [v] => eK v fun v => .ret (.pv (.one (.int .u64 v)), hp)
        | _ => .bad "bytes") else some (.bad "bytes. nothing there")) else some (.bad "bytes where")) else some (.bad "bytes. how many")
      | _ => some (.bad "bytes of what")) else some (.bad "bytes of which")
    | _ => some (.bad "bytes")
  else none
theorem bytesOrc_ok (hp0 : px r0 = some (bytesV sb n)) (hf : ft 3 = loadF ct) : OrcOk Tryz.prog (refX sb n ct px) ft (bytesOrc 53 r0) := by
  intro f args hp t h0 C w vs hC h hv
  unfold bytesOrc at h0
  cases hb : Nat.beq f 53 with
  | false => rw [hb, cond_false] at h0; cases h0
  | true =>
    rw [hb, cond_true] at h0
    have hff : f = 53 := Nat.eq_of_beq_eq_true hb
    subst hff
    split at h0
    · rename_i p x k
      cases hi : refRow hp r0 p with
      | false => rw [hi, cond_false] at h0; cases h0; exact CallOk.bad
      | true =>
        rw [hi, cond_true] at h0
        split at h0
        · rename_i e r hm
          cases hk : isK k with
          | false => rw [hk, cond_false] at h0; cases h0; exact CallOk.bad
          | true =>
          rw [hk, cond_true] at h0
          cases hin : inRs hp.gh.k [U] [x] with
          | false => rw [hin, cond_false] at h0; cases h0; exact CallOk.bad
          | true =>
            rw [hin, cond_true] at h0
            cases hce : holdsB hp.gh.k [x, .lit (.ofNat k), e] (certL ++ aliK k) with
            | false => rw [hce, cond_false] at h0; cases h0; exact CallOk.bad
            | true =>
            rw [hce, cond_true] at h0
            cases h0
            cases hv with
            | @cons _ v1 _ vs1 q1 q2 =>
            cases q2 with
            | @cons _ v2 _ vs2 q2 q3 =>
            cases q3 with
            | @cons _ v3 _ vs3 q3 q4 =>
            cases q4
            obtain ⟨g, q, c, cs, rfl, hg, hmach, _, _⟩ := refRow_ok hC hp0 h hi q1
            obtain ⟨s2, rfl⟩ := q2
            obtain ⟨s3, rfl⟩ := q3
            obtain ⟨g1, g2, g3, g4, g5⟩ := gh_ref hC h hm
            intro Φ hx
            have hkk := isK_ok hk
            have hxr := (inRs_ok h.ks hin (fun y hy => by rw [List.mem_singleton.1 hy]; exact s2)).2 0 U (x.den C.V) rfl rfl
            have hx0 : (0 : Int) ≤ x.den C.V := hxr.1
            have hx1 : x.den C.V ≤ (18446744073709551615 : Int) := hxr.2
            have hcs := holdsB_ok (rs := certRs) (d := C.vd) h.ks (σ := [x, .lit (.ofNat k), e]) (fun y hy => by
              rcases List.mem_cons.1 hy with rfl | hy
              · exact s2
              rcases List.mem_cons.1 hy with rfl | hy
              · exact trivial
              rw [List.mem_singleton.1 hy]; exact g3) rfl (scTy_L k hk) hce
            have hin3 := certL_says (n := n) (k := k) (V := env0 ([x, .lit (.ofNat k), e].map (E.den C.V))) g1 rfl hkk hx0 hcs
            replace hin3 : ((pmaFind n (x.den C.V)).1 = 1 ∧ x.den C.V - 4096 + k ≤ 4096) ∨ mayErr n (x.den C.V) k = 0 := hin3
            have hin2 : InB [U] (C.V.f 3 ((e :: x :: E.lit (.ofNat k) :: r).map (E.den C.V))) := by
              rw [hC.1, hf]
              simp only [List.map_cons, g1, den_lit]
              exact loadF_in g4.2.1 (by simp only [Int.ofNat_eq_natCast]; omega)
            obtain ⟨C', hp', outs, n1, n2, n3, n4, n5, _⟩ := xlets_ok h (fun y hy => by
              rcases List.mem_cons.1 hy with rfl | hy
              · exact g3
              rcases List.mem_cons.1 hy with rfl | hy
              · exact s2
              rcases List.mem_cons.1 hy with rfl | hy
              · exact trivial
              · exact g2 y hy) hin2 (fun _ _ _ _ _ q hq => by cases hq) hx
            rw [hC.1, hf] at n4
            simp only [List.map_cons, g1, den_lit] at n4
            split at n5
            · rename_i v
              rw [eK_eq] at n5
              simp only [List.map_cons, List.map_nil, loadF, Int.toNat_natCast, Int.ofNat_eq_natCast, List.cons.injEq, and_true] at n4
              rw [den_lit]
              refine (ref24_bytes hmach g4 (x.den C.V) hx0 (by omega) k (by omega) hin3).mono ?_
              rintro e' w' ⟨rfl, hbel⟩
              obtain ⟨k1, k2⟩ := n1.below' hbel
              exact ⟨C', _, .pv (.one (.int .u64 v)), hp', rfl, ⟨n3 v (by simp), by rw [n4]⟩, k1, n2.trans k2, n5⟩
            · exact n5.elim
        · cases h0; exact CallOk.bad
    · cases h0; exact CallOk.bad
/-! ### store -/
theorem HRel.refTo {C : Ctx} {hp : Hp} {w w' : World} (hC : C.Is (refX sb n ct px) ft) (h : HRel C hp w) (hS : ∀ g, C.S g ↔ g = sb) {m : List E} (hs : ∀ e ∈ m, e.sc C.V C.vd) {r : List Int} (hd : m.map (E.den C.V) = (n : Int) :: r) (hr : RefMem w' sb n (putsL n ct r)) (ht : Turned (· = sb) w w') :
    HRel C (hp.mem m) w' ∧ Kp C w C w' := by
  refine ⟨⟨⟨fun q blk hq => ?_, h.inj⟩, ⟨?_, hs, h.ext.facts, h.ext.defs⟩, h.apart, h.own, h.free, fun q g c hq => Nat.lt_of_lt_of_le (h.blt q g c hq) ht.size⟩, ⟨.refl C, ht.size, ht.tape, ht.os, ht.output, fun g hg ho hs => ht.block g hg (fun e => hs ((hS g).2 e)), fun g hg => .inl hg, fun g hg => .inl hg, fun q g c hq => .inl ⟨q, c, hq⟩⟩⟩
  · obtain ⟨g, c, k1, k2⟩ := h.at_ q blk hq
    exact ⟨g, c, k1, by rw [ht.block g (h.blt q g c k1) (fun e => h.apart q blk g c hq k1 ((hS g).2 e))]; exact k2⟩
  · show C.X.rel _ _ _ _
    rw [hC.2.1]
    exact ⟨r, hd, hr, hS⟩
/-- is a word known to be there? -/
def storeOrc (f0 : FuncId) (r0 : Nat) : Orc := fun f args hp =>
  bif Nat.beq f f0 then
    match args with
    | [p, .pv (.one (.int .u64 x)), .pv (.one (.int .i64 (.lit (.ofNat k)))), .pv (.one (.int .u64 v))] => bif refRow hp r0 p then (match hp.gh.m with
      | n :: r => bif isK k then (bif inRs hp.gh.k [U, U] [x, v] then (bif holdsB hp.gh.k [x, .lit (.ofNat k), n] (certS ++ aliK k) then some (.ret (.tup [], hp.mem (n :: x :: .lit (.ofNat k) :: v :: r)))
        else some (xlets hp 1 (n :: x :: .lit (.ofNat k) :: r) [U, R 6] (fun _ => []) fun vs hp => match vs with
          | [_, e] => (match knownF hp.gh.k (mkCmp .eql e (.lit (.ofNat 0))) with
            | some true => .ret (.tup [], hp.mem (n :: x :: .lit (.ofNat k) :: v :: r))
            | _ => .bad "store. nothing there")
          | _ => .bad "store")) else some (.bad "store where")) else some (.bad "store. how many")
      | _ => some (.bad "store of what")) else some (.bad "store of which")
    | _ => some (.bad "store")
  else none
theorem storeOrc_ok (hp0 : px r0 = some (bytesV sb n)) (hf : ft 1 = wordF ct) : OrcOk Tryz.prog (refX sb n ct px) ft (storeOrc 73 r0) := by
  intro f args hp t h0 C w vs hC h hv
  unfold storeOrc at h0
  cases hb : Nat.beq f 73 with
  | false => rw [hb, cond_false] at h0; cases h0
  | true =>
    rw [hb, cond_true] at h0
    have hff : f = 73 := Nat.eq_of_beq_eq_true hb
    subst hff
    split at h0
    · rename_i p x k v
      cases hi : refRow hp r0 p with
      | false => rw [hi, cond_false] at h0; cases h0; exact CallOk.bad
      | true =>
        rw [hi, cond_true] at h0
        split at h0
        · rename_i e r hm
          cases hk : isK k with
          | false => rw [hk, cond_false] at h0; cases h0; exact CallOk.bad
          | true =>
          rw [hk, cond_true] at h0
          cases hin : inRs hp.gh.k [U, U] [x, v] with
          | false => rw [hin, cond_false] at h0; cases h0; exact CallOk.bad
          | true =>
            rw [hin, cond_true] at h0
            cases hv with
            | @cons _ v1 _ vs1 q1 q2 =>
            cases q2 with
            | @cons _ v2 _ vs2 q2 q3 =>
            cases q3 with
            | @cons _ v3 _ vs3 q3 q4 =>
            cases q4 with
            | @cons _ v4 _ vs4 q4 q5 =>
            cases q5
            obtain ⟨g, q, c, cs, rfl, hg, hmach, _, hnS⟩ := refRow_ok hC hp0 h hi q1
            obtain ⟨s2, rfl⟩ := q2
            obtain ⟨s3, rfl⟩ := q3
            obtain ⟨s4, rfl⟩ := q4
            have hkk := isK_ok hk
            have hsc2 : ∀ y ∈ [x, v], y.sc C.V C.vd := fun y hy => by
              rcases List.mem_cons.1 hy with rfl | hy
              · exact s2
              · rw [List.mem_singleton.1 hy]; exact s4
            have hxr := (inRs_ok h.ks hin hsc2).2 0 U (x.den C.V) rfl rfl
            have hx0 : (0 : Int) ≤ x.den C.V := hxr.1
            have hx1 : x.den C.V ≤ (18446744073709551615 : Int) := hxr.2
            have hvr := (inRs_ok h.ks hin hsc2).2 1 U (v.den C.V) rfl rfl
            have hv0 : (0 : Int) ≤ v.den C.V := hvr.1
            have hv1 : v.den C.V ≤ (18446744073709551615 : Int) := hvr.2
            have fin : ∀ (C1 : Ctx) (hp1 : Hp), HRel C1 hp1 w → Kp C w C1 w → hp1.gh.m = e :: r → mayErr n (x.den C.V) k = 0 → ∀ Φ : Env → SV × Hp → Prop, Φ C1.V (.tup [], hp1.mem (e :: x :: .lit (.ofNat k) :: v :: r)) →
                Calls Tryz.prog 73 #[.pointer (some ⟨g, 0, none⟩), .int .u64 (x.den C.V), .int .i64 k, .int .u64 (v.den C.V)] w fun e' w' => ∃ C' v sv hp', e' = .returned v ∧ sv.rel C' v ∧ HRel C' hp' w' ∧ Kp C w C' w' ∧ Φ C'.V (sv, hp') := fun C1 hp1 hH1 hK1 hm1 hme Φ hΦ => by
              have hC1 := hC.le hK1.le
              obtain ⟨g1, g2, g3, g4, g5⟩ := gh_ref hC1 hH1 hm1
              obtain ⟨m1, m2, m3, m4, m5⟩ := mayErr_in hx0 hme
              obtain ⟨off, ho⟩ : ∃ off : Nat, x.den C.V - 2147483648 = off := ⟨(x.den C.V - 2147483648).toNat, by omega⟩
              obtain ⟨vn, hvn⟩ : ∃ vn : Nat, v.den C.V = vn := ⟨(v.den C.V).toNat, by omega⟩
              have hgs : g ≠ sb := fun e1 => by
                have hcs := (gh_ref hC h hm).2.2.2.2
                exact hnS ((hcs g).2 e1)
              have hd : ∀ {y : E}, y.sc C.V C.vd → y.sc C1.V C1.vd ∧ y.den C1.V = y.den C.V := fun {y} hy => by
                obtain ⟨k1, k2⟩ := E.sc_le hK1.le y hy
                exact ⟨k1, by unfold E.den; rw [k2]⟩
              rw [hvn]
              refine (ref24_store hmach g4 (x.den C.V) hx0 (by omega) k off vn (by omega) (by omega) (by omega) hgs ho (by omega)).mono ?_
              rintro e' w' ⟨rfl, hst, htu⟩
              obtain ⟨j1, j2⟩ := HRel.refTo (r := x.den C.V :: (k : Int) :: v.den C.V :: r.map (E.den C1.V)) hC1 hH1 g5 (m := e :: x :: .lit (.ofNat k) :: v :: r) (fun y hy => by
                rcases List.mem_cons.1 hy with rfl | hy
                · exact g3
                rcases List.mem_cons.1 hy with rfl | hy
                · exact (hd s2).1
                rcases List.mem_cons.1 hy with rfl | hy
                · exact trivial
                rcases List.mem_cons.1 hy with rfl | hy
                · exact (hd s4).1
                · exact g2 y hy) (by simp only [List.map_cons, g1, (hd s2).2, (hd s4).2, den_lit]; rfl) (by
                simp only [putsL]
                rw [if_pos hme, ho, hvn, Int.toNat_natCast, Int.toNat_natCast, Int.toNat_natCast]
                exact hst) htu
              exact ⟨C1, _, .tup [], _, rfl, ⟨[], .nil, rfl⟩, j1, hK1.trans j2, hΦ⟩
            cases hce : holdsB hp.gh.k [x, .lit (.ofNat k), e] (certS ++ aliK k) with
            | true =>
              rw [hce, cond_true] at h0
              cases h0
              obtain ⟨g1, g2, g3, g4, g5⟩ := gh_ref hC h hm
              have hcs := holdsB_ok (rs := certRs) (d := C.vd) h.ks (σ := [x, .lit (.ofNat k), e]) (fun y hy => by
                rcases List.mem_cons.1 hy with rfl | hy
                · exact s2
                rcases List.mem_cons.1 hy with rfl | hy
                · exact trivial
                rw [List.mem_singleton.1 hy]; exact g3) rfl (scTy_S k hk) hce
              have hme : mayErr n (x.den C.V) k = 0 := certS_says (n := n) (k := k) (V := env0 ([x, .lit (.ofNat k), e].map (E.den C.V))) g1 hkk hx0 hcs
              intro Φ hx
              exact fin C hp h (.refl C w) hm hme Φ hx
            | false =>
              rw [hce, cond_false] at h0
              cases h0
              obtain ⟨g1, g2, g3, g4, g5⟩ := gh_ref hC h hm
              intro Φ hx
              have hin2 : InB [U, R 6] (C.V.f 1 ((e :: x :: E.lit (.ofNat k) :: r).map (E.den C.V))) := by
                rw [hC.1, hf]
                simp only [List.map_cons, g1]
                exact wordF_in g4.2.1
              obtain ⟨C', hp', outs, n1, n2, n3, n4, n5, _, _, _, _, _, n11⟩ := xlets_ok h (fun y hy => by
                rcases List.mem_cons.1 hy with rfl | hy
                · exact g3
                rcases List.mem_cons.1 hy with rfl | hy
                · exact s2
                rcases List.mem_cons.1 hy with rfl | hy
                · exact trivial
                · exact g2 y hy) hin2 (fun _ _ _ _ _ q hq => by cases hq) hx
              rw [hC.1, hf] at n4
              simp only [List.map_cons, g1, den_lit] at n4
              split at n5
              · rename_i v' er
                split at n5
                · rename_i hkn
                  obtain ⟨c1, c2⟩ := mkCmp_ok .eql (b := .lit (.ofNat 0)) (n3 er (by simp)) trivial
                  have hz := knownF_ok n1.ks c1 hkn
                  rw [c2, den_lit] at hz
                  simp only [cmpD, beq_iff_eq] at hz
                  have hme : mayErr n (x.den C.V) k = 0 := by
                    simp only [List.map_cons, List.map_nil, wordF, Int.toNat_natCast, Int.ofNat_eq_natCast] at n4
                    by_cases h0 : mayErr n (x.den C.V) k = 0
                    · exact h0
                    · rw [if_neg h0] at n4
                      simp only [List.cons.injEq, and_true] at n4
                      exact (n4.2.symm.trans hz)
                  exact fin C' hp' n1 n2 (n11.trans hm) hme Φ n5
                · exact n5.elim
              · exact n5.elim
        · cases h0; exact CallOk.bad
    · cases h0; exact CallOk.bad
end
end
end Sx
end Go.Proofs.YtkogjjeoihnjpaaGreat
end
section
set_option linter.unusedVariables false
namespace Go.Proofs.YtkogjjeoihnjpaaGreat.Sx
open Go Go.RowKit
set_option maxRecDepth 100000
/-! ### tappetref08.Priv -/
theorem priR_one : (xfn Tryz.prog tab.get noOrc 5000 100 140 (argsG [.agg hartC, .one ci] priRs) (hpF [])).one = true := by kernel_rfl
theorem priR_same : ((xfn Tryz.prog tab.get noOrc 5000 100 140 (argsG [.agg hartC, .one ci] priRs) (hpF [])).every fun a => (xfn Tryz.prog tab.get noOrc 5000 100 112 (argsG [.agg hartC, .one ci] priRs) (hpNext a.2)).every fun b => sameR (.one (.one ci)) a.1 b.1) = true := by kernel_rfl
theorem priR_tells : Tells Tryz.prog 112 [.agg hartC, .one ci] priRs [] (.one (.one ci)) [R 3] [] priF := fun args hi hk w =>
  ⟨(pri_tells args hi hk w).1, same_of_run (ft := fun _ _ => []) tab_ok mixed (noOrc_ok _ _ _) (by decide) (by kernel_rfl) priR_one priR_same hi hk w⟩
noncomputable def priRO : Orc := tellOrc 112 24 [.agg hartC, .one ci] priRs [] (.one (.one ci)) [R 3] []
theorem priRO_ok (X : Ext) (ft : Ft) (h : ft 24 = priF) : OrcOk Tryz.prog X ft priRO := tellOrc_ok (by kernel_rfl) (by kernel_rfl) (by rw [h]; exact priR_tells)
/-! ### tappetref17.On -/
theorem onnR_one : (xfn Tryz.prog tab.get noOrc 5000 100 141 (argsG [.one cu, .one ci] onnRs) (hpF [])).one = true := by kernel_rfl
theorem onnR_same : ((xfn Tryz.prog tab.get noOrc 5000 100 141 (argsG [.one cu, .one ci] onnRs) (hpF [])).every fun a => (xfn Tryz.prog tab.get noOrc 5000 100 113 (argsG [.one cu, .one ci] onnRs) (hpNext a.2)).every fun b => sameR (.one (.one cb)) a.1 b.1) = true := by kernel_rfl
theorem onnR_tells : Tells Tryz.prog 113 [.one cu, .one ci] onnRs [] (.one (.one cb)) [BB] [] onnF := fun args hi hk w =>
  ⟨(onn_tells args hi hk w).1, same_of_run (ft := fun _ _ => []) tab_ok mixed (noOrc_ok _ _ _) (by decide) (by kernel_rfl) onnR_one onnR_same hi hk w⟩
noncomputable def onnRO : Orc := tellOrc 113 25 [.one cu, .one ci] onnRs [] (.one (.one cb)) [BB] []
theorem onnRO_ok (X : Ext) (ft : Ft) (h : ft 25 = onnF) : OrcOk Tryz.prog X ft onnRO := tellOrc_ok (by kernel_rfl) (by kernel_rfl) (by rw [h]; exact onnR_tells)
/-! ### tappetref17.Check -/
theorem chkR_one : (xfn Tryz.prog tab.get noOrc 5000 100 145 (argsG [.agg pteC, .one ci, .one ci, .one cb, .one cb] chkRs) (hpF [])).one = true := by kernel_rfl
theorem chkR_same : ((xfn Tryz.prog tab.get noOrc 5000 100 145 (argsG [.agg pteC, .one ci, .one ci, .one cb, .one cb] chkRs) (hpF [])).every fun a => (xfn Tryz.prog tab.get noOrc 5000 100 119 (argsG [.agg pteC, .one ci, .one ci, .one cb, .one cb] chkRs) (hpNext a.2)).every fun b => sameR (.one (.one cb)) a.1 b.1) = true := by kernel_rfl
theorem chkR_tells : Tells Tryz.prog 119 [.agg pteC, .one ci, .one ci, .one cb, .one cb] chkRs [] (.one (.one cb)) [BB] [] chkF := fun args hi hk w =>
  ⟨(chk_tells args hi hk w).1, same_of_run (ft := fun _ _ => []) tab_ok mixed (noOrc_ok _ _ _) (by decide) (by kernel_rfl) chkR_one chkR_same hi hk w⟩
noncomputable def chkRO : Orc := tellOrc 119 26 [.agg pteC, .one ci, .one ci, .one cb, .one cb] chkRs [] (.one (.one cb)) [BB] []
theorem chkRO_ok (X : Ext) (ft : Ft) (h : ft 26 = chkF) : OrcOk Tryz.prog X ft chkRO := tellOrc_ok (by kernel_rfl) (by kernel_rfl) (by rw [h]; exact chkR_tells)
/-! ### tappetref17.Marks -/
theorem mrkR_one : (xfn Tryz.prog tab.get noOrc 5000 100 146 (argsG [.agg pteC, .one ci] mrkRs) (hpF [])).one = true := by kernel_rfl
theorem mrkR_same : ((xfn Tryz.prog tab.get noOrc 5000 100 146 (argsG [.agg pteC, .one ci] mrkRs) (hpF [])).every fun a => (xfn Tryz.prog tab.get noOrc 5000 100 120 (argsG [.agg pteC, .one ci] mrkRs) (hpNext a.2)).every fun b => sameR (.tup [.one cu, .one cb]) a.1 b.1) = true := by kernel_rfl
theorem mrkR_tells : Tells Tryz.prog 120 [.agg pteC, .one ci] mrkRs [] (.tup [.one cu, .one cb]) [U, BB] [] mrkF := fun args hi hk w =>
  ⟨(mrk_tells args hi hk w).1, same_of_run (ft := fun _ _ => []) tab_ok mixed (noOrc_ok _ _ _) (by decide) (by kernel_rfl) mrkR_one mrkR_same hi hk w⟩
noncomputable def mrkRO : Orc := tellOrc 120 27 [.agg pteC, .one ci] mrkRs [] (.tup [.one cu, .one cb]) [U, BB] []
theorem mrkRO_ok (X : Ext) (ft : Ft) (h : ft 27 = mrkF) : OrcOk Tryz.prog X ft mrkRO := tellOrc_ok (by kernel_rfl) (by kernel_rfl) (by rw [h]; exact mrkR_tells)
/-! ### tappetref17.Fault -/
theorem fltR_one : (xfn Tryz.prog tab.get noOrc 5000 100 144 (argsG [.one ci, .one cb] fltRs) (hpF [])).one = true := by kernel_rfl
theorem fltR_same : ((xfn Tryz.prog tab.get noOrc 5000 100 144 (argsG [.one ci, .one cb] fltRs) (hpF [])).every fun a => (xfn Tryz.prog tab.get noOrc 5000 100 118 (argsG [.one ci, .one cb] fltRs) (hpNext a.2)).every fun b => sameR (.one (.one cu)) a.1 b.1) = true := by kernel_rfl
theorem fltR_tells : Tells Tryz.prog 118 [.one ci, .one cb] fltRs [] (.one (.one cu)) [R 15] [] fltF := fun args hi hk w =>
  ⟨(flt_tells args hi hk w).1, same_of_run (ft := fun _ _ => []) tab_ok mixed (noOrc_ok _ _ _) (by decide) (by kernel_rfl) fltR_one fltR_same hi hk w⟩
noncomputable def fltRO : Orc := tellOrc 118 29 [.one ci, .one cb] fltRs [] (.one (.one cu)) [R 15] []
theorem fltRO_ok (X : Ext) (ft : Ft) (h : ft 29 = fltF) : OrcOk Tryz.prog X ft fltRO := tellOrc_ok (by kernel_rfl) (by kernel_rfl) (by rw [h]; exact fltR_tells)
/-! ### tappetref09.May -/
theorem pmmR_one : (xfn Tryz.prog tab.get noOrc 5000 100 148 (argsG [.one ci, .one cu, .one ci, .one ci, .one cb] pmmRs) (hpF [])).one = true := by kernel_rfl
theorem pmmR_same : ((xfn Tryz.prog tab.get noOrc 5000 100 148 (argsG [.one ci, .one cu, .one ci, .one ci, .one cb] pmmRs) (hpF [])).every fun a => (xfn Tryz.prog tab.get noOrc 5000 100 122 (argsG [.one ci, .one cu, .one ci, .one ci, .one cb] pmmRs) (hpNext a.2)).every fun b => sameR (.one (.one cb)) a.1 b.1) = true := by kernel_rfl
theorem pmmR_tells : Tells Tryz.prog 122 [.one ci, .one cu, .one ci, .one ci, .one cb] pmmRs [] (.one (.one cb)) [BB] pmmK pmmF := fun args hi hk w =>
  ⟨(pmm_tells args hi hk w).1, same_of_run (ft := fun _ _ => []) tab_ok mixed (noOrc_ok _ _ _) (by decide) (by kernel_rfl) pmmR_one pmmR_same hi hk w⟩
noncomputable def pmmRO : Orc := tellOrc 122 30 [.one ci, .one cu, .one ci, .one ci, .one cb] pmmRs [] (.one (.one cb)) [BB] pmmK
theorem pmmRO_ok (X : Ext) (ft : Ft) (h : ft 30 = pmmF) : OrcOk Tryz.prog X ft pmmRO := tellOrc_ok (by kernel_rfl) (by kernel_rfl) (by rw [h]; exact pmmR_tells)
/-! ### tappetref09.Device -/
theorem devR_one : (xfn Tryz.prog tab.get noOrc 5000 100 62 (argsG [.one ci, .one cu] devRs) (hpF [])).one = true := by kernel_rfl
theorem devR_same : ((xfn Tryz.prog tab.get noOrc 5000 100 62 (argsG [.one ci, .one cu] devRs) (hpF [])).every fun a => (xfn Tryz.prog tab.get noOrc 5000 100 69 (argsG [.one ci, .one cu] devRs) (hpNext a.2)).every fun b => sameR (.one (.one cb)) a.1 b.1) = true := by kernel_rfl
theorem devR_tells : Tells Tryz.prog 69 [.one ci, .one cu] devRs [] (.one (.one cb)) [BB] devK devF := fun args hi hk w =>
  ⟨(dev_tells args hi hk w).1, same_of_run (ft := fun _ _ => []) tab_ok mixed (noOrc_ok _ _ _) (by decide) (by kernel_rfl) devR_one devR_same hi hk w⟩
noncomputable def devRO : Orc := tellOrc 69 31 [.one ci, .one cu] devRs [] (.one (.one cb)) [BB] devK
theorem devRO_ok (X : Ext) (ft : Ft) (h : ft 31 = devF) : OrcOk Tryz.prog X ft devRO := tellOrc_ok (by kernel_rfl) (by kernel_rfl) (by rw [h]; exact devR_tells)
end Go.Proofs.YtkogjjeoihnjpaaGreat.Sx
end
