/- Memories outside a run on terms, made while it goes on: what they hold is told byte by byte out of the words put. No condition. Memories outside a run on terms: words put, copies, new ones: how what is known goes on. No condition. Words read and put, pages, copies, comparisons, new memories: contracts over memories that are told byte by byte. No condition. -/
import Derived.Test.YtkogjjeoihnjpaaGreatPack7
import Derived.Test.YtkogjjeoihnjpaaGreatPack4
import Derived.Test.YtkogjjeoihnjpaaGreatPack46
import Derived.Test.YtkogjjeoihnjpaaGreatPack36
section
set_option linter.unusedVariables false
set_option linter.unusedSimpArgs false
namespace Go.Proofs.YtkogjjeoihnjpaaGreat.Sx
open Go Go.RowKit
/-! ### memories, as numbers tell them -/
/-- words put one behind the other: the last one first; before them zeros -/
def putsW : List Int → Nat → Nat
  | x :: k :: v :: r => putWord (putsW r) (x - 2147483648).toNat k.toNat v.toNat
  | _ => fun _ => 0
/-- a memory: its number, its block, its pages, what was put, its other blocks -/
structure Mm where
  q : Nat
  b : Nat
  n : Nat
  ps : List Int
  S : Nat → Prop
def Mm.own (m : Mm) (g : Nat) : Prop := g = m.b ∨ m.S g
def tell : List Mm → List Int
  | [] => []
  | m :: r => (m.q : Int) :: (m.n : Int) :: (m.ps.length : Int) :: (m.ps ++ tell r)
theorem tell_inj : ∀ {l l' : List Mm}, tell l = tell l' → All2 (fun m m' : Mm => m.q = m'.q ∧ m.n = m'.n ∧ m.ps = m'.ps) l l'
  | [], [], _ => .nil
  | [], m :: r, h => by simp [tell] at h
  | m :: r, [], h => by simp [tell] at h
  | m :: r, m' :: r', h => by
    simp only [tell, List.cons.injEq] at h
    obtain ⟨h1, h2, h3, h4⟩ := h
    obtain ⟨h5, h6⟩ := List.append_inj h4 (by omega)
    exact .cons ⟨by omega, by omega, h5⟩ (tell_inj h6)
structure MemsAt (bl : Nat → Option (Nat × Nat)) (w : World) (T : Nat → Prop) (ms : List Mm) : Prop where
  bl : ∀ m ∈ ms, bl m.q = some (m.b, 1)
  ram : ∀ m ∈ ms, RamAt w m.b m.n (putsW m.ps) m.S
  apart : ∀ (i j : Nat) (m m' : Mm), ms[i]? = some m → ms[j]? = some m' → i ≠ j → ∀ g, m.own g → ¬ m'.own g
  all : ∀ g, T g ↔ ∃ m ∈ ms, m.own g
theorem RamAt.keepO {w w' : World} {b n : Nat} {ct : Nat → Nat} {S : Nat → Prop} (h : RamAt w b n ct S) (hk : ∀ g, g = b ∨ S g → w'.heap[g]? = w.heap[g]?) : RamAt w' b n ct S := by
  obtain ⟨m, pg, h2, h3⟩ := h
  exact ⟨m, pg, h2.keep fun g hg => hk g (hg.imp id fun h => h3 ▸ h), h3⟩
theorem Mm.lt {w : World} {m : Mm} (h : RamAt w m.b m.n (putsW m.ps) m.S) {g : Nat} (hg : m.own g) : g < w.heap.size := by
  rcases hg with rfl | hg
  · exact h.self.2
  · exact h.lt hg
def memsR (l : List Int) (bl : Nat → Option (Nat × Nat)) (w : World) (T : Nat → Prop) : Prop := ∃ ms, l = tell ms ∧ MemsAt bl w T ms
theorem memsR.keep (l : List Int) (bl : Nat → Option (Nat × Nat)) (w w' : World) (T : Nat → Prop) (h : memsR l bl w T) (hs : w.heap.size ≤ w'.heap.size) (hk : ∀ k, T k → w'.heap[k]? = w.heap[k]?) : memsR l bl w' T := by
  obtain ⟨ms, h1, h2⟩ := h
  exact ⟨ms, h1, h2.bl, fun m hm => RamAt.keepO (h2.ram m hm) fun g hg => hk g ((h2.all g).2 ⟨m, hm, hg⟩), h2.apart, h2.all⟩
theorem memsR.lt (l : List Int) (bl : Nat → Option (Nat × Nat)) (w : World) (T : Nat → Prop) (h : memsR l bl w T) (k : Nat) (hk : T k) : k < w.heap.size := by
  obtain ⟨ms, h1, h2⟩ := h
  obtain ⟨m, hm, hg⟩ := (h2.all k).1 hk
  exact Mm.lt (h2.ram m hm) hg
theorem memsR.mono (l : List Int) (bl bl' : Nat → Option (Nat × Nat)) (w : World) (T : Nat → Prop) (hb : ∀ b x, bl b = some x → bl' b = some x) (h : memsR l bl w T) : memsR l bl' w T := by
  obtain ⟨ms, h1, h2⟩ := h
  exact ⟨ms, h1, fun m hm => hb _ _ (h2.bl m hm), h2.ram, h2.apart, h2.all⟩
theorem memsR.back (l : List Int) (bl bl' : Nat → Option (Nat × Nat)) (w w0 : World) (T T0 : Nat → Prop) (hb : ∀ b x, bl' b = some x → bl b = some x) (h : memsR l bl w T) (h0 : memsR l bl' w0 T0) : memsR l bl' w T := by
  obtain ⟨ms, h1, h2⟩ := h
  obtain ⟨ms0, h3, h4⟩ := h0
  refine ⟨ms, h1, fun m hm => ?_, h2.ram, h2.apart, h2.all⟩
  obtain ⟨i, hi⟩ := List.mem_iff_getElem?.1 hm
  obtain ⟨m0, k1, k2, _⟩ := (tell_inj (h1.symm.trans h3)).get i m hi
  have e0 := h4.bl m0 (List.mem_of_getElem? k1)
  have e1 := hb _ _ e0
  rw [← k2, h2.bl m hm] at e1
  rw [k2, e0]
  exact e1.symm
def memsX : Ext := ⟨memsR, memsR.keep, memsR.lt, memsR.mono, memsR.back, fun _ => none⟩
/-! ### the same, as terms tell them -/
structure SM where
  q : Nat
  n : E
  ps : List E
def tellE : List SM → List E
  | [] => []
  | m :: r => .lit (.ofNat m.q) :: m.n :: .lit (.ofNat m.ps.length) :: (m.ps ++ tellE r)
def parseM : Nat → List E → Option (List SM)
  | _, [] => some []
  | f + 1, .lit (.ofNat q) :: n :: .lit (.ofNat c) :: r => bif Nat.ble c r.length then (match parseM f (r.drop c) with
    | some ms => some (⟨q, n, r.take c⟩ :: ms)
    | none => none) else none
  | _, _ => none
theorem parseM_ok : ∀ {f : Nat} {l : List E} {ms : List SM}, parseM f l = some ms → l = tellE ms := by
  intro f
  induction f with
  | zero =>
    intro l ms h
    cases l with
    | nil => simp only [parseM, Option.some.injEq] at h; subst h; rfl
    | cons a l => simp [parseM] at h
  | succ f ih =>
    intro l ms h
    unfold parseM at h
    split at h
    · cases h; rfl
    · rename_i f' q n c r hf
      obtain rfl : f = f' := Nat.succ.inj hf
      cases hb : Nat.ble c r.length with
      | false => rw [hb, cond_false] at h; cases h
      | true =>
        rw [hb, cond_true] at h
        have hc : c ≤ r.length := Nat.le_of_ble_eq_true hb
        split at h
        · rename_i ms' hms
          cases h
          simp only [tellE, List.length_take, Nat.min_eq_left hc]
          rw [← ih hms, List.take_append_drop]
        · cases h
    · cases h
structure SMrel (V : Env) (s : SM) (m : Mm) : Prop where
  q : s.q = m.q
  n : s.n.den V = m.n
  ps : s.ps.map (E.den V) = m.ps
theorem tell_rel {V : Env} : ∀ {sms : List SM} {ms : List Mm}, (tellE sms).map (E.den V) = tell ms → All2 (SMrel V) sms ms
  | [], [], _ => .nil
  | [], m :: r, h => by simp [tell, tellE] at h
  | m :: r, [], h => by simp [tell, tellE] at h
  | s :: r, m :: r', h => by
    simp only [tell, tellE, List.map_cons, List.map_append, List.cons.injEq, den_lit] at h
    obtain ⟨h1, h2, h3, h4⟩ := h
    have h3' : s.ps.length = m.ps.length := Int.ofNat.inj h3
    obtain ⟨h5, h6⟩ := List.append_inj h4 (by simpa using h3')
    exact .cons ⟨Int.ofNat.inj h1, h2, h5⟩ (tell_rel h6)
theorem rel_tell {V : Env} {sms : List SM} {ms : List Mm} (h : All2 (SMrel V) sms ms) : (tellE sms).map (E.den V) = tell ms := by
  induction h with
  | nil => rfl
  | @cons s m ss ms h1 h2 ih =>
    have hl : s.ps.length = m.ps.length := by rw [← h1.ps, List.length_map]
    simp only [tell, tellE, List.map_cons, List.map_append, den_lit, ih, h1.n, h1.ps, h1.q, hl]
    rfl
section
variable {ft : Ft} {C : Ctx} {hp : Hp} {w : World}
/-- what is told of memories -/
theorem mems_of (hC : C.Is memsX ft) (h : HRel C hp w) {sms : List SM} (hm : hp.gh.m = tellE sms) : ∃ ms, MemsAt C.bl w C.S ms ∧ All2 (SMrel C.V) sms ms := by
  have h1 := h.ext.rel
  rw [hC.2.1, hm] at h1
  obtain ⟨ms, h2, h3⟩ := h1
  exact ⟨ms, h3, tell_rel h2⟩
end
noncomputable section
/-! ### bytes -/
def splitE : E → E × Nat
  | .pl .add x (.lit (.ofNat c)) => (x, c)
  | .lit (.ofNat c) => (.lit (.ofNat 0), c)
  | e => (e, 0)
theorem splitE_ok {V : Env} {d : Nat → Prop} {e : E} (h : e.sc V d) : (splitE e).1.sc V d ∧ e.den V = (splitE e).1.den V + (splitE e).2 := by
  unfold splitE
  split
  · exact ⟨h.1, rfl⟩
  · refine ⟨trivial, ?_⟩
    simp only [den_lit]
    show Int.ofNat _ = Int.ofNat 0 + _
    simp
  · exact ⟨h, by simp⟩
/-- byte j of a word -/
def pieceE (v : E) (j : Nat) : E := mkBin .rem .u64 (mkBin .shr .u64 v (.lit (.ofNat (8 * j)))) (.lit (.ofNat 256))
theorem pieceE_ok {V : Env} {d : Nat → Prop} {v : E} (h : v.sc V d) (h0 : 0 ≤ v.den V) {j : Nat} (hj : j < 8) : (pieceE v j).sc V d ∧ (pieceE v j).den V = (((v.den V).toNat / 2 ^ (8 * j) % 256 : Nat) : Int) := by
  obtain ⟨h1, h2⟩ := mkBin_ok .shr .u64 (a := v) (b := .lit (.ofNat (8 * j))) (V := V) (d := d) h trivial
  obtain ⟨h3, h4⟩ := mkBin_ok .rem .u64 (b := .lit (.ofNat 256)) h1 (V := V) (d := d) trivial
  refine ⟨h3, h4.trans ?_⟩
  rw [h2, den_lit, den_lit]
  obtain ⟨n, hn⟩ : ∃ n : Nat, v.den V = n := ⟨(v.den V).toNat, by omega⟩
  rw [hn, Int.toNat_natCast]
  show ((n : Int).fdiv (2 ^ (min (Int.ofNat (8 * j)).toNat 64))).tmod (Int.ofNat 256) = _
  have e1 : min (Int.ofNat (8 * j)).toNat 64 = 8 * j := by simp only [Int.ofNat_eq_natCast, Int.toNat_natCast]; omega
  rw [e1]
  have e2 : (n : Int).fdiv (2 ^ (8 * j)) = ((n / 2 ^ (8 * j) : Nat) : Int) := by
    rw [Int.fdiv_eq_ediv_of_nonneg _ (Int.pow_nonneg (by decide))]
    rw [show (2 : Int) ^ (8 * j) = ((2 ^ (8 * j) : Nat) : Int) by simp]
    exact (Int.natCast_ediv n _).symm
  rw [e2, Int.tmod_eq_emod_of_nonneg (Int.natCast_nonneg _)]
  exact (Int.natCast_emod _ 256).symm
def apartE (x : E) (k : Nat) (ab : E) (c : Nat) : Bool :=
  match x.rng, ab.rng with
  | some (l, h), some (l', h') => decide (h + k ≤ l' + c) || decide (h' + c < l)
  | _, _ => false
/-- not below where memory begins -/
def geE (x : E) : Bool :=
  match x.rng with
  | some (l, _) => decide (2147483648 ≤ l)
  | none => false
theorem geE_ok {V : Env} {d : Nat → Prop} {x : E} (h : x.sc V d) (hb : geE x = true) : 2147483648 ≤ x.den V := by
  unfold geE at hb
  split at hb
  · rename_i l u hr
    have := E.rng_ok V d x _ _ h hr
    have := of_decide_eq_true hb
    omega
  · cases hb
/-- the byte at a place, of what was put -/
def byteE : List E → E → Nat → Option E
  | x :: .lit (.ofNat k) :: v :: r, ab, c =>
    bif geE x && pos? v && Nat.ble k 8 then
      match splitE x with
      | (xb, xc) => bif eSame xb ab then (bif Nat.ble xc c && Nat.blt c (xc + k) then some (pieceE v (c - xc)) else byteE r ab c)
        else bif apartE x k ab c then byteE r ab c else none
    else none
  | [], _, _ => some (.lit (.ofNat 0))
  | _, _, _ => none
theorem byteE_ok {V : Env} {d : Nat → Prop} {ab : E} {c : Nat} (hab : ab.sc V d) (h0 : 2147483648 ≤ ab.den V + c) : ∀ (ps : List E) {e : E}, (∀ y ∈ ps, y.sc V d) → byteE ps ab c = some e → e.sc V d ∧ e.den V = ((putsW (ps.map (E.den V)) (ab.den V + c - 2147483648).toNat : Nat) : Int)
  | [], e, _, h => by simp only [byteE, Option.some.injEq] at h; subst h; exact ⟨trivial, rfl⟩
  | x :: .lit (.ofNat k) :: v :: r, e, hs, h => by
    have hx : x.sc V d := hs x (by simp)
    have hv : v.sc V d := hs v (by simp)
    have hr : ∀ y ∈ r, y.sc V d := fun y hy => hs y (by simp [hy])
    simp only [byteE] at h
    cases hg : (geE x && pos? v && Nat.ble k 8) with
    | false => rw [hg, cond_false] at h; cases h
    | true =>
      rw [hg, cond_true] at h
      simp only [Bool.and_eq_true] at hg
      have hx0 := geE_ok hx hg.1.1
      have hv0 := pos_ok hg.1.2 hv
      have hk8 : k ≤ 8 := Nat.le_of_ble_eq_true hg.2
      obtain ⟨s1, s2⟩ := splitE_ok hx
      generalize splitE x = p at *
      obtain ⟨xb, xc⟩ := p
      simp only at h s1 s2
      simp only [List.map_cons, den_lit, putsW]
      have kk : (Int.ofNat k).toNat = k := rfl
      rw [kk]
      have skip : (¬ ((x.den V - 2147483648).toNat ≤ (ab.den V + c - 2147483648).toNat ∧ (ab.den V + c - 2147483648).toNat < (x.den V - 2147483648).toNat + k)) → byteE r ab c = some e → e.sc V d ∧ e.den V = ((putWord (putsW (r.map (E.den V))) (x.den V - 2147483648).toNat k (v.den V).toNat (ab.den V + c - 2147483648).toNat : Nat) : Int) := fun hn hb => by
        obtain ⟨q1, q2⟩ := byteE_ok hab h0 r hr hb
        refine ⟨q1, q2.trans ?_⟩
        unfold putWord
        rw [if_neg hn]
      cases he : eSame xb ab with
      | true =>
        rw [he, cond_true] at h
        have hxa : xb.den V = ab.den V := by rw [eSame_ok he]
        cases hw : (Nat.ble xc c && Nat.blt c (xc + k)) with
        | true =>
          rw [hw, cond_true] at h
          simp only [Bool.and_eq_true] at hw
          have w1 : xc ≤ c := Nat.le_of_ble_eq_true hw.1
          have w2 : c < xc + k := Nat.le_of_ble_eq_true hw.2
          cases h
          obtain ⟨q1, q2⟩ := pieceE_ok hv hv0 (j := c - xc) (by omega)
          refine ⟨q1, q2.trans ?_⟩
          unfold putWord
          rw [if_pos (by omega)]
          rw [show (ab.den V + c - 2147483648).toNat - (x.den V - 2147483648).toNat = c - xc by omega]
        | false =>
          rw [hw, cond_false] at h
          refine skip (fun hh => ?_) h
          have : ¬ (xc ≤ c ∧ c < xc + k) := fun hc => by
            have e1 : Nat.ble xc c = true := Nat.ble_eq_true_of_le hc.1
            have e2 : Nat.blt c (xc + k) = true := Nat.ble_eq_true_of_le hc.2
            rw [e1, e2] at hw; cases hw
          omega
      | false =>
        rw [he, cond_false] at h
        cases ha : apartE x k ab c with
        | false => rw [ha, cond_false] at h; cases h
        | true =>
          rw [ha, cond_true] at h
          refine skip (fun hh => ?_) h
          unfold apartE at ha
          split at ha
          · rename_i l u l' u' hr1 hr2
            have k1 := E.rng_ok V d x _ _ hx hr1
            have k2 := E.rng_ok V d ab _ _ hab hr2
            simp only [Bool.or_eq_true, decide_eq_true_eq] at ha
            omega
          · cases ha
  | [_], _, _, h => by simp [byteE] at h
  | [_, _], _, _, h => by simp [byteE] at h
  | _ :: .lit (.negSucc _) :: _ :: _, _, _, h => by simp [byteE] at h
  | _ :: .var _ _ _ :: _ :: _, _, _, h => by simp [byteE] at h
  | _ :: .bin _ _ _ _ :: _ :: _, _, _, h => by simp [byteE] at h
  | _ :: .pl _ _ _ :: _ :: _, _, _, h => by simp [byteE] at h
  | _ :: .cast _ _ :: _ :: _, _, _, h => by simp [byteE] at h
  | _ :: .ite _ _ _ :: _ :: _, _, _, h => by simp [byteE] at h
  | _ :: .tt _ :: _ :: _, _, _, h => by simp [byteE] at h
  | _ :: .bvar _ :: _ :: _, _, _, h => by simp [byteE] at h
  | _ :: .cmp _ _ _ :: _ :: _, _, _, h => by simp [byteE] at h
  | _ :: .no _ :: _ :: _, _, _, h => by simp [byteE] at h
  | _ :: .ix _ _ _ :: _ :: _, _, _, h => by simp [byteE] at h
/-! ### words -/
theorem or_shl {x y i : Nat} (hy : y < 2 ^ i) (hx : x * 2 ^ i < 2 ^ 64) (hi : i ≤ 64) : bitsD .or .u64 ((x * 2 ^ i : Nat) : Int) (y : Int) = ((x * 2 ^ i + y : Nat) : Int) := by
  have hy64 : y < 2 ^ 64 := Nat.lt_of_lt_of_le hy (Nat.pow_le_pow_right (by decide) hi)
  show IntKind.u64.wrap ((BitVec.ofInt 64 ((x * 2 ^ i : Nat) : Int) ||| BitVec.ofInt 64 (y : Int)).toNat : Nat) = _
  have e1 : BitVec.ofInt 64 ((x * 2 ^ i : Nat) : Int) = BitVec.ofNat 64 (x * 2 ^ i) := BitVec.ofInt_natCast _ _
  have e2 : BitVec.ofInt 64 (y : Int) = BitVec.ofNat 64 y := BitVec.ofInt_natCast _ _
  rw [e1, e2, BitVec.toNat_or, BitVec.toNat_ofNat, BitVec.toNat_ofNat, Nat.mod_eq_of_lt hx, Nat.mod_eq_of_lt hy64]
  have e3 : x * 2 ^ i ||| y = x * 2 ^ i + y := by
    rw [← Nat.shiftLeft_eq, ← Nat.shiftLeft_add_eq_or_of_lt hy]
  have hs : x * 2 ^ i + y < 2 ^ 64 := by rw [← e3]; exact Nat.or_lt_two_pow hx hy64
  rw [e3, IntKind.wrap_u64]
  omega
def wordE (ps : List E) (ab : E) (c : Nat) : Nat → Option E
  | 0 => some (.lit (.ofNat 0))
  | k + 1 => match wordE ps ab c k, byteE ps ab (c + k) with
    | some w, some b => some (bif Nat.beq k 0 then b else mkBin .or .u64 (mkBin .shl .u64 b (.lit (.ofNat (8 * k)))) w)
    | _, _ => none
theorem putsW_lt : ∀ (l : List Int) (i : Nat), putsW l i < 256
  | [], _ => by simp [putsW]
  | [_], _ => by simp [putsW]
  | [_, _], _ => by simp [putsW]
  | x :: k :: v :: r, i => by
    simp only [putsW, putWord]
    split
    · exact Nat.mod_lt _ (by decide)
    · exact putsW_lt r i
theorem wordE_ok {V : Env} {d : Nat → Prop} {ps : List E} {ab : E} {c : Nat} (hps : ∀ y ∈ ps, y.sc V d) (hab : ab.sc V d) (h0 : 2147483648 ≤ ab.den V + c) : ∀ (k : Nat) {e : E}, k ≤ 8 → wordE ps ab c k = some e → e.sc V d ∧ e.den V = ((wordAt (putsW (ps.map (E.den V))) (ab.den V + c - 2147483648).toNat k : Nat) : Int)
  | 0, e, _, h => by simp only [wordE, Option.some.injEq] at h; subst h; exact ⟨trivial, rfl⟩
  | k + 1, e, hk, h => by
    simp only [wordE] at h
    split at h
    · rename_i w b hw hb
      obtain ⟨w1, w2⟩ := wordE_ok hps hab h0 k (by omega) hw
      obtain ⟨b1, b2⟩ := byteE_ok hab (c := c + k) (by omega) ps hps hb
      rw [show (ab.den V + ((c + k : Nat) : Int) - 2147483648).toNat = (ab.den V + c - 2147483648).toNat + k by omega] at b2
      have lt1 : wordAt (putsW (ps.map (E.den V))) (ab.den V + c - 2147483648).toNat k < 2 ^ (8 * k) := wordN_lt (fun i => putsW_lt _ _) k
      have lt2 := putsW_lt (ps.map (E.den V)) ((ab.den V + c - 2147483648).toNat + k)
      have hwk : wordAt (putsW (ps.map (E.den V))) (ab.den V + c - 2147483648).toNat (k + 1) = wordAt (putsW (ps.map (E.den V))) (ab.den V + c - 2147483648).toNat k + putsW (ps.map (E.den V)) ((ab.den V + c - 2147483648).toNat + k) * 2 ^ (8 * k) := rfl
      rw [hwk]
      generalize wordAt (putsW (ps.map (E.den V))) (ab.den V + c - 2147483648).toNat k = W at *
      generalize putsW (ps.map (E.den V)) ((ab.den V + c - 2147483648).toNat + k) = B at *
      simp only [Option.some.injEq] at h
      subst h
      cases hz : Nat.beq k 0 with
      | true =>
        rw [cond_true]
        obtain rfl : k = 0 := Nat.eq_of_beq_eq_true hz
        refine ⟨b1, b2.trans ?_⟩
        have : W = 0 := by simpa using lt1
        rw [this]; simp
      | false =>
        rw [cond_false]
        obtain ⟨s1, s2⟩ := mkBin_ok .shl .u64 (b := .lit (.ofNat (8 * k))) b1 (V := V) (d := d) trivial
        obtain ⟨o1, o2⟩ := mkBin_ok .or .u64 s1 w1
        refine ⟨o1, o2.trans ?_⟩
        have hB : B * 2 ^ (8 * k) < 2 ^ 64 := by
          have : B * 2 ^ (8 * k) < 256 * 2 ^ (8 * k) := Nat.mul_lt_mul_of_pos_right lt2 (Nat.two_pow_pos _)
          have h2 : 256 * 2 ^ (8 * k) = 2 ^ (8 * k + 8) := by rw [Nat.pow_add]; omega
          have h3 : 2 ^ (8 * k + 8) ≤ 2 ^ 64 := Nat.pow_le_pow_right (by decide) (by omega)
          omega
        have e1 : (mkBin .shl .u64 b (.lit (.ofNat (8 * k)))).den V = ((B * 2 ^ (8 * k) : Nat) : Int) := by
          rw [s2, b2, den_lit]
          show IntKind.u64.wrap ((B : Int) * 2 ^ (min (Int.ofNat (8 * k)).toNat 64)) = _
          rw [show min (Int.ofNat (8 * k)).toNat 64 = 8 * k by simp only [Int.ofNat_eq_natCast, Int.toNat_natCast]; omega]
          rw [show (B : Int) * 2 ^ (8 * k) = ((B * 2 ^ (8 * k) : Nat) : Int) by simp, IntKind.wrap_u64]
          omega
        rw [e1, w2]
        show bitsD .or .u64 _ _ = _
        rw [or_shl lt1 hB (by omega), Nat.add_comm]
    · cases h
end
end Go.Proofs.YtkogjjeoihnjpaaGreat.Sx
end
section
set_option linter.unusedVariables false
set_option linter.unusedSimpArgs false
namespace Go.Proofs.YtkogjjeoihnjpaaGreat.Sx
open Go Go.RowKit
theorem mem_tellE {P : E → Prop} (hl : ∀ n : Nat, P (.lit (.ofNat n))) : ∀ {sms : List SM}, (∀ e ∈ tellE sms, P e) ↔ ∀ s ∈ sms, P s.n ∧ ∀ y ∈ s.ps, P y
  | [] => ⟨fun _ s hs => (nomatch hs), fun _ e he => (nomatch he)⟩
  | s :: r => by
    have ih := mem_tellE (P := P) hl (sms := r)
    constructor
    · intro h x hx
      simp only [tellE, List.mem_cons, List.mem_append] at h
      rcases List.mem_cons.1 hx with rfl | hx
      · exact ⟨h _ (.inr (.inl rfl)), fun y hy => h y (.inr (.inr (.inr (.inl hy))))⟩
      · exact ih.1 (fun e he => h e (.inr (.inr (.inr (.inr he))))) x hx
    · intro h e he
      simp only [tellE, List.mem_cons, List.mem_append] at he
      rcases he with rfl | rfl | rfl | he | he
      · exact hl _
      · exact (h s List.mem_cons_self).1
      · exact hl _
      · exact (h s List.mem_cons_self).2 e he
      · exact ih.2 (fun x hx => h x (List.mem_cons_of_mem _ hx)) e he
def findIx (q : Nat) : List SM → Nat → Option (Nat × SM)
  | [], _ => none
  | m :: r, i => bif Nat.beq m.q q then some (i, m) else findIx q r (i + 1)
theorem findIx_ok {q : Nat} : ∀ {l : List SM} {i j : Nat} {m : SM}, findIx q l i = some (j, m) → ∃ t, j = i + t ∧ l[t]? = some m ∧ m.q = q
  | [], i, j, m, h => by simp [findIx] at h
  | x :: r, i, j, m, h => by
    unfold findIx at h
    cases hb : Nat.beq x.q q with
    | true => rw [hb, cond_true] at h; cases h; exact ⟨0, rfl, rfl, Nat.eq_of_beq_eq_true hb⟩
    | false =>
      rw [hb, cond_false] at h
      obtain ⟨t, h1, h2, h3⟩ := findIx_ok h
      exact ⟨t + 1, by omega, by simpa using h2, h3⟩
def memArg (hp : Hp) (p : SV) : Option (List SM × Nat × SM) :=
  match p with
  | .pv (.one (.ptr q 0)) => match parseM 40 hp.gh.m with
    | some sms => match findIx q sms 0 with
      | some (i, m) => some (sms, i, m)
      | none => none
    | none => none
  | _ => none
section
variable {ft : Ft} {C : Ctx} {hp : Hp} {w : World}
structure MemIs (C : Ctx) (hp : Hp) (w : World) (sms : List SM) (ms : List Mm) (i : Nat) (s : SM) (m : Mm) : Prop where
  told : hp.gh.m = tellE sms
  at_ : MemsAt C.bl w C.S ms
  rel : All2 (SMrel C.V) sms ms
  si : sms[i]? = some s
  mi : ms[i]? = some m
  sm : SMrel C.V s m
  sc : ∀ s ∈ sms, s.n.sc C.V C.vd ∧ ∀ y ∈ s.ps, y.sc C.V C.vd
theorem memArg_ok (hC : C.Is memsX ft) (h : HRel C hp w) {p : SV} {v : Value} {sms : List SM} {i : Nat} {s : SM} (ha : memArg hp p = some (sms, i, s)) (hv : p.rel C v) :
    ∃ ms m, MemIs C hp w sms ms i s m ∧ v = .pointer (some ⟨m.b, 0, none⟩) ∧ RamAt w m.b m.n (putsW m.ps) m.S := by
  unfold memArg at ha
  split at ha
  · rename_i q
    split at ha
    · rename_i sms' hs
      split at ha
      · rename_i i' m' hf
        cases ha
        have hm := parseM_ok hs
        obtain ⟨ms, h1, h2⟩ := mems_of hC h hm
        obtain ⟨t, k1, k2, k3⟩ := findIx_ok hf
        obtain rfl : i = t := by omega
        obtain ⟨m, k4, k5⟩ := h2.get i s k2
        refine ⟨ms, m, ⟨hm, h1, h2, k2, k4, k5, (mem_tellE fun n => trivial).1 fun e he => h.ext.msc e (by rw [hm]; exact he)⟩, ?_, h1.ram m (List.mem_of_getElem? k4)⟩
        obtain ⟨g, c, e1, rfl⟩ := hv
        have e2 := h1.bl m (List.mem_of_getElem? k4)
        rw [← k5.q, k3] at e2
        rw [e2] at e1
        cases e1
        rfl
      · cases ha
    · cases ha
  · cases ha
/-- the memory that is told turns -/
def Hp.tells (hp : Hp) (m : List E) : Hp := { hp with gh := ⟨hp.gh.k, hp.gh.d, m⟩ }
theorem mem_set {α : Type} {l : List α} {i : Nat} {a x : α} (h : x ∈ l.set i a) : ∃ j, j < l.length ∧ ((j = i ∧ x = a) ∨ (j ≠ i ∧ l[j]? = some x)) := by
  obtain ⟨j, hj⟩ := List.mem_iff_getElem?.1 h
  rw [List.getElem?_set] at hj
  by_cases e : i = j
  · rw [if_pos e] at hj
    split at hj
    · rename_i hl; cases hj; exact ⟨j, e ▸ hl, .inl ⟨e.symm, rfl⟩⟩
    · cases hj
  · rw [if_neg e] at hj
    exact ⟨j, (List.getElem?_eq_some_iff.1 hj).1, .inr ⟨fun e' => e e'.symm, hj⟩⟩
theorem HRel.memSet (hC : C.Is memsX ft) (h : HRel C hp w) {sms : List SM} {ms : List Mm} {i : Nat} {s : SM} {m : Mm} (hM : MemIs C hp w sms ms i s m) {ps' : List E} (hps : ∀ y ∈ ps', y.sc C.V C.vd) {w' : World} (ht : RamTo w w' m.b m.n (putsW (ps'.map (E.den C.V))) m.S) :
    ∃ C', HRel C' (hp.tells (tellE (sms.set i ⟨s.q, s.n, ps'⟩))) w' ∧ Kp C w C' w' ∧ C'.V = C.V ∧ C'.vd = C.vd := by
  obtain ⟨S', t1, t2, t3⟩ := ht
  let m' : Mm := ⟨m.q, m.b, m.n, ps'.map (E.den C.V), S'⟩
  let C' : Ctx := { C with S := fun g => ∃ x ∈ ms.set i m', x.own g }
  have hsz := t2.size
  have hmm : m ∈ ms := List.mem_of_getElem? hM.mi
  have hil : i < ms.length := (List.getElem?_eq_some_iff.1 hM.mi).1
  have hnS : ∀ g, ¬ C.S g → ¬ m.S g := fun g hg hs => hg ((hM.at_.all g).2 ⟨m, hmm, .inr hs⟩)
  have old : ∀ q blk g c, hget hp.H q = some blk → C.bl q = some (g, c) → w'.heap[g]? = w.heap[g]? := fun q blk g c hq hb => t2.block g (h.blt q g c hb) (hnS g (h.apart q blk g c hq hb))
  have hle : C.le C' := ⟨fun i hi => ⟨hi, rfl, rfl, rfl⟩, rfl, rfl, fun _ _ h => h⟩
  have hnew : ∀ g, C'.S g → C.S g ∨ w.heap.size ≤ g := fun g hg => by
    obtain ⟨x, hx, hxo⟩ := hg
    obtain ⟨j, _, ⟨_, rfl⟩ | ⟨_, hj⟩⟩ := mem_set hx
    · rcases hxo with rfl | hs
      · exact .inl ((hM.at_.all _).2 ⟨m, hmm, .inl rfl⟩)
      · rcases t3 g hs with hs | hs
        · exact .inl ((hM.at_.all _).2 ⟨m, hmm, .inr hs⟩)
        · exact .inr hs
    · exact .inl ((hM.at_.all _).2 ⟨x, List.mem_of_getElem? hj, hxo⟩)
  have hrel : All2 (SMrel C.V) (sms.set i ⟨s.q, s.n, ps'⟩) (ms.set i m') := hM.rel.set i ⟨hM.sm.q, hM.sm.n, rfl⟩
  have hother : ∀ j x, ms[j]? = some x → j ≠ i → ∀ g, x.own g → g < w.heap.size ∧ ¬ m.own g := fun j x hj hji g hg => ⟨Mm.lt (hM.at_.ram x (List.mem_of_getElem? hj)) hg, hM.at_.apart j i x m hj hM.mi hji g hg⟩
  have hown : ∀ g, m'.own g → m.own g ∨ w.heap.size ≤ g := fun g hg => by
    rcases hg with rfl | hg
    · exact .inl (.inl rfl)
    · rcases t3 g hg with hg | hg
      · exact .inl (.inr hg)
      · exact .inr hg
  refine ⟨C', ⟨⟨fun q blk hq => ?_, h.inj⟩, ⟨?_, ?_, h.ext.facts, h.ext.defs⟩, fun q blk g c hq hb hg => ?_, h.own, h.free, fun q g c hq => Nat.lt_of_lt_of_le (h.blt q g c hq) hsz⟩, ⟨hle, hsz, t2.tape, t2.os, t2.output, fun g hg _ hs => t2.block g hg (hnS g hs), hnew, fun g hg => .inl hg, fun q g c hq => .inl ⟨q, c, hq⟩⟩, rfl, rfl⟩
  · obtain ⟨g, c, k1, k2⟩ := h.at_ q blk hq
    exact ⟨g, c, k1, by rw [old q blk g c hq k1]; exact k2.le hle⟩
  · show C.X.rel _ _ _ _
    rw [hC.2.1]
    refine ⟨ms.set i m', rel_tell hrel, fun x hx => ?_, fun x hx => ?_, fun j k x y hj hk hjk g hx hy => ?_, fun g => Iff.rfl⟩
    · obtain ⟨j, _, ⟨_, rfl⟩ | ⟨_, hj⟩⟩ := mem_set hx
      · exact hM.at_.bl m hmm
      · exact hM.at_.bl x (List.mem_of_getElem? hj)
    · obtain ⟨j, _, ⟨_, rfl⟩ | ⟨hji, hj⟩⟩ := mem_set hx
      · exact t1
      · refine RamAt.keepO (hM.at_.ram x (List.mem_of_getElem? hj)) fun g hg => ?_
        obtain ⟨k1, k2⟩ := hother j x hj hji g hg
        exact t2.block g k1 fun hs => k2 (.inr hs)
    · rw [List.getElem?_set] at hj hk
      by_cases e1 : i = j
      · subst e1
        rw [if_pos rfl, if_pos hil] at hj
        cases hj
        rw [if_neg hjk] at hk
        obtain ⟨k1, k2⟩ := hother k y hk (fun e => hjk e.symm) g hy
        rcases hown g hx with hx | hx
        · exact k2 hx
        · omega
      · rw [if_neg e1] at hj
        obtain ⟨k1, k2⟩ := hother j x hj (fun e => e1 e.symm) g hx
        by_cases e2 : i = k
        · subst e2
          rw [if_pos rfl, if_pos hil] at hk
          cases hk
          rcases hown g hy with hy | hy
          · exact k2 hy
          · omega
        · rw [if_neg e2] at hk
          exact hM.at_.apart j k x y hj hk hjk g hx hy
  · refine (mem_tellE fun n => trivial).2 fun x hx => ?_
    obtain ⟨j, _, ⟨_, rfl⟩ | ⟨_, hj⟩⟩ := mem_set hx
    · exact ⟨(hM.sc s (List.mem_of_getElem? hM.si)).1, hps⟩
    · exact hM.sc x (List.mem_of_getElem? hj)
  · have h1 := h.apart q blk g c hq hb
    have h2 := h.blt q g c hb
    rcases hnew g hg with h3 | h3
    · exact h1 h3
    · omega
/-- a new memory -/
theorem HRel.memNew (hC : C.Is memsX ft) (h : HRel C hp w) {sms : List SM} (hm : hp.gh.m = tellE sms) {n : E} {ps' : List E} (hn : n.sc C.V C.vd) (hps : ∀ y ∈ ps', y.sc C.V C.vd) (hcan : hp.can = true) {w' : World} {rb N : Nat} {S' : Nat → Prop} (hN : n.den C.V = N)
    (hr : RamAt w' rb N (putsW (ps'.map (E.den C.V))) S') (hnew : ∀ g, g = rb ∨ S' g → w.heap.size ≤ g) (hb : Below w.heap.size w w') :
    ∃ C', HRel C' { hp with nx := hp.nx + 1, gh := ⟨hp.gh.k, hp.gh.d, tellE (sms ++ [⟨hp.nx, n, ps'⟩])⟩ } w' ∧ Kp C w C' w' ∧ C'.V = C.V ∧ C'.vd = C.vd ∧ C'.bl hp.nx = some (rb, 1) := by
  obtain ⟨ms, hA, hR⟩ := mems_of hC h hm
  have hfree := (h.free hp.nx (Hp.can_free hcan)).1
  let m' : Mm := ⟨hp.nx, rb, N, ps'.map (E.den C.V), S'⟩
  let C' : Ctx := { C with bl := fun q => if q = hp.nx then some (rb, 1) else C.bl q, S := fun g => C.S g ∨ m'.own g }
  have hsz := hb.size
  have hle : C.le C' := ⟨fun i hi => ⟨hi, rfl, rfl, rfl⟩, rfl, rfl, fun b x hx => by show (if b = hp.nx then _ else _) = _; rw [if_neg (fun e => by rw [e, hfree] at hx; cases hx)]; exact hx⟩
  have hbl : ∀ q x, C'.bl q = some x → q = hp.nx ∧ x = (rb, 1) ∨ q ≠ hp.nx ∧ C.bl q = some x := fun q x hx => by
    have hx : (if q = hp.nx then some (rb, 1) else C.bl q) = some x := hx
    split at hx
    · rename_i e; cases hx; exact .inl ⟨e, rfl⟩
    · rename_i e; exact .inr ⟨e, hx⟩
  have hin : ∀ q blk, hget hp.H q = some blk → q ≠ hp.nx := fun q blk hq e => by
    obtain ⟨g, c, k1, _⟩ := h.at_ q blk hq
    rw [e, hfree] at k1; cases k1
  have hSlt : ∀ g, C.S g → g < w.heap.size := h.ext.lt
  refine ⟨C', ⟨⟨fun q blk hq => ?_, fun q q' x x' g c c' hx hx' hg hg' => ?_⟩, ⟨?_, ?_, h.ext.facts, h.ext.defs⟩, fun q blk g c hq hg => ?_, fun q blk g c hq hit hg => ?_, fun q hq => ?_, fun q g c hq => ?_⟩, ⟨hle, hsz, hb.tape, hb.os, hb.output, fun g hg _ _ => hb.block g hg, fun g hg => ?_, fun g hg => .inl hg, fun q g c hq => ?_⟩, rfl, rfl, ?_⟩
  · obtain ⟨g, c, k1, k2⟩ := h.at_ q blk hq
    exact ⟨g, c, hle.bl _ _ k1, by rw [hb.block g (h.blt q g c k1)]; exact k2.le hle⟩
  · rcases hbl _ _ hg with ⟨e, _⟩ | ⟨_, hg⟩
    · exact absurd e (hin q x hx)
    · rcases hbl _ _ hg' with ⟨e, _⟩ | ⟨_, hg'⟩
      · exact absurd e (hin q' x' hx')
      · exact h.inj q q' x x' g c c' hx hx' hg hg'
  · show C.X.rel _ _ _ _
    rw [hC.2.1]
    refine ⟨ms ++ [m'], ?_, fun x hx => ?_, fun x hx => ?_, fun j k x y hj hk hjk g hx hy => ?_, fun g => ?_⟩
    · exact rel_tell (hR.append (.cons ⟨rfl, hN, rfl⟩ .nil))
    · rcases List.mem_append.1 hx with hx | hx
      · exact hle.bl _ _ (hA.bl x hx)
      · rw [List.mem_singleton.1 hx]; show (if hp.nx = hp.nx then _ else _) = _; rw [if_pos rfl]
    · rcases List.mem_append.1 hx with hx | hx
      · exact RamAt.keepO (hA.ram x hx) fun g hg => hb.block g (Mm.lt (hA.ram x hx) hg)
      · rw [List.mem_singleton.1 hx]; exact hr
    · have lt : ∀ (j : Nat) (x : Mm), (ms ++ [m'])[j]? = some x → (j < ms.length ∧ ms[j]? = some x) ∨ (j = ms.length ∧ x = m') := fun j x hj => by
        by_cases e : j < ms.length
        · rw [List.getElem?_append_left e] at hj; exact .inl ⟨e, hj⟩
        · rw [List.getElem?_append_right (by omega)] at hj
          by_cases e2 : j - ms.length = 0
          · rw [e2] at hj; cases hj; exact .inr ⟨by omega, rfl⟩
          · rw [List.getElem?_eq_none (by simp; omega)] at hj; cases hj
      rcases lt j x hj with ⟨_, hj⟩ | ⟨ej, rfl⟩ <;> rcases lt k y hk with ⟨_, hk⟩ | ⟨ek, rfl⟩
      · exact hA.apart j k x y hj hk hjk g hx hy
      · have := Mm.lt (hA.ram x (List.mem_of_getElem? hj)) hx; have := hnew g hy; omega
      · have := Mm.lt (hA.ram y (List.mem_of_getElem? hk)) hy; have := hnew g hx; omega
      · omega
    · constructor
      · rintro (hg | hg)
        · obtain ⟨x, hx, hxo⟩ := (hA.all g).1 hg
          exact ⟨x, List.mem_append_left _ hx, hxo⟩
        · exact ⟨m', by simp, hg⟩
      · rintro ⟨x, hx, hxo⟩
        rcases List.mem_append.1 hx with hx | hx
        · exact .inl ((hA.all g).2 ⟨x, hx, hxo⟩)
        · rw [List.mem_singleton.1 hx] at hxo; exact .inr hxo
  · refine (mem_tellE fun n => trivial).2 fun x hx => ?_
    rcases List.mem_append.1 hx with hx | hx
    · exact (mem_tellE fun n => trivial).1 (fun e he => h.ext.msc e (by rw [hm]; exact he)) x hx
    · rw [List.mem_singleton.1 hx]; exact ⟨hn, hps⟩
  · rcases hbl _ _ hg with ⟨e, _⟩ | ⟨_, hg⟩
    · exact absurd e (hin q blk hq)
    · rintro (hs | hs)
      · exact h.apart q blk g c hq hg hs
      · have := hnew g hs; have := h.blt q g c hg; omega
  · rcases hbl _ _ hg with ⟨e, _⟩ | ⟨_, hg⟩
    · exact absurd e (hin q blk hq)
    · exact h.own q blk g c hq hit hg
  · obtain ⟨k1, k2⟩ := @Hp.can_next hp hcan hp.H q hq
    obtain ⟨k3, k4⟩ := h.free q k1
    exact ⟨by show (if q = hp.nx then _ else _) = _; rw [if_neg k2]; exact k3, k4⟩
  · rcases hbl _ _ hq with ⟨_, e⟩ | ⟨_, hq⟩
    · cases e; exact hr.self.2
    · have := h.blt q g c hq; omega
  · rcases hg with hg | hg
    · exact .inl hg
    · exact .inr (hnew g hg)
  · rcases hbl _ _ hq with ⟨_, e⟩ | ⟨_, hq⟩
    · cases e; exact .inr (hnew _ (.inl rfl))
    · exact .inl ⟨q, c, hq⟩
  · show (if hp.nx = hp.nx then _ else _) = _; rw [if_pos rfl]
end
end Go.Proofs.YtkogjjeoihnjpaaGreat.Sx
end
section
set_option linter.unusedVariables false
set_option linter.unusedSimpArgs false
namespace Go.Proofs.YtkogjjeoihnjpaaGreat.Sx
open Go Go.RowKit
noncomputable section
def isZeroE : E → Bool
  | .lit (.ofNat 0) => true
  | _ => false
def inE (n x : E) (k : Nat) : Bool :=
  match n, x.rng with
  | .lit (.ofNat n), some (l, h) => decide (2147483648 ≤ l) && decide (h + k ≤ 2147483648 + n * 4096)
  | _, _ => false
/-- may a word of k bytes be at a place? -/
def okE (n x : E) (k : Nat) : Bool :=
  (Nat.beq k 1 || Nat.beq k 2 || Nat.beq k 4 || Nat.beq k 8) && isZeroE (mkBin .rem .u64 x (.lit (.ofNat k))) && inE n x k
theorem okE_ok {V : Env} {d : Nat → Prop} {n x : E} {k N : Nat} (hx : x.sc V d) (hn : n.den V = N) (hN : N ≤ 256) (h : okE n x k = true) :
    mayErr N (x.den V) k = 0 ∧ 2147483648 ≤ x.den V ∧ x.den V < 18446744073709551616 ∧ k ≤ 8 := by
  unfold okE at h
  simp only [Bool.and_eq_true, Bool.or_eq_true] at h
  obtain ⟨⟨h1, h2⟩, h3⟩ := h
  have hk : k = 1 ∨ k = 2 ∨ k = 4 ∨ k = 8 := by
    rcases h1 with ((h1 | h1) | h1) | h1
    · exact .inl (Nat.eq_of_beq_eq_true h1)
    · exact .inr (.inl (Nat.eq_of_beq_eq_true h1))
    · exact .inr (.inr (.inl (Nat.eq_of_beq_eq_true h1)))
    · exact .inr (.inr (.inr (Nat.eq_of_beq_eq_true h1)))
  unfold inE at h3
  split at h3
  · rename_i m l u hr
    rw [den_lit] at hn
    have hm : m = N := Int.ofNat.inj hn
    subst hm
    have k1 := E.rng_ok V d x _ _ hx hr
    simp only [Bool.and_eq_true, decide_eq_true_eq] at h3
    have hx0 : 0 ≤ x.den V := by omega
    have hz : x.den V % k = 0 := by
      obtain ⟨r1, r2⟩ := mkBin_ok .rem .u64 (b := .lit (.ofNat k)) hx (V := V) (d := d) trivial
      unfold isZeroE at h2
      split at h2
      · rename_i e
        rw [e, den_lit, den_lit] at r2
        have r3 : Int.ofNat 0 = (x.den V).tmod (Int.ofNat k) := r2
        rw [Int.tmod_eq_emod_of_nonneg hx0] at r3
        exact r3.symm
      · cases h2
    refine ⟨?_, by omega, by omega, by omega⟩
    unfold mayErr
    rw [if_pos (by omega), if_pos hz]
    have : ramAll m (x.den V) k = true := by
      unfold ramAll isRam
      simp only [Bool.or_eq_true, Bool.and_eq_true, decide_eq_true_eq]
      right
      refine ⟨?_, by omega⟩
      first | omega | (constructor <;> omega)
    rw [if_pos this]
  · cases h3
def wordO2 (f0 : FuncId) : Orc := fun f args hp =>
  bif Nat.beq f f0 then
    match args with
    | [p, .pv (.one (.int .u64 x)), .pv (.one (.int .i64 (.lit (.ofNat k))))] => match memArg hp p with
      | some (_, _, s) => bif okE s.n x k then (match wordE s.ps (splitE x).1 (splitE x).2 k with
        | some e => some (eK e fun e => .ret (.tup [.one (.int .u64 e), .one (.int .i64 (.lit (.ofNat 0)))], hp))
        | none => some (.bad "bytes")) else some (.bad "place of a word")
      | none => some (.bad "word of which")
    | _ => some (.bad "word")
  else none
def putO2 (f0 : FuncId) : Orc := fun f args hp =>
  bif Nat.beq f f0 then
    match args with
    | [p, .pv (.one (.int .u64 x)), .pv (.one (.int .i64 (.lit (.ofNat k)))), .pv (.one (.int .u64 v))] => match memArg hp p with
      | some (sms, i, s) => bif okE s.n x k && pos? v then some (.ret (.pv (.one (.int .i64 (.lit (.ofNat 0)))), hp.tells (tellE (sms.set i ⟨s.q, s.n, x :: .lit (.ofNat k) :: v :: s.ps⟩))))
        else some (.bad "place of a put")
      | none => some (.bad "put of which")
    | _ => some (.bad "put")
  else none
def pagesO2 (f0 : FuncId) : Orc := fun f args hp =>
  bif Nat.beq f f0 then
    match args with
    | [p] => match memArg hp p with
      | some (_, _, s) => some (eK s.n fun n => .ret (.pv (.one (.int .i64 n)), hp))
      | none => some (.bad "pages of which")
    | _ => some (.bad "pages")
  else none
def newHp (hp : Hp) (m : List E) : Hp := { hp with nx := hp.nx + 1, gh := ⟨hp.gh.k, hp.gh.d, m⟩ }
def forkO2 (f0 : FuncId) : Orc := fun f args hp =>
  bif Nat.beq f f0 then
    match args with
    | [p] => match memArg hp p with
      | some (sms, _, s) => bif hp.can then some (natK hp.nx fun q => .ret (.pv (.one (.ptr q 0)), newHp hp (tellE (sms ++ [⟨q, s.n, s.ps⟩])))) else some (.bad "numbers")
      | none => some (.bad "fork of which")
    | _ => some (.bad "fork")
  else none
def sameO2 (f0 : FuncId) : Orc := fun f args hp =>
  bif Nat.beq f f0 then
    match args with
    | [p, r] => match memArg hp p, memArg hp r with
      | some (_, _, s), some (_, _, t) => bif eSame s.n t.n && listSame eSame s.ps t.ps then some (.ret (.pv (.one (.bool (.tt true))), hp)) else some (.bad "not the same")
      | _, _ => some (.bad "same of which")
    | _ => some (.bad "same")
  else none
def loadO2 (f0 : FuncId) : Orc := fun f args hp =>
  bif Nat.beq f f0 then
    match args with
    | [.pv (.one (.int .i64 (.lit (.ofNat n)))), .pv (.one .nils)] => match parseM 40 hp.gh.m with
      | some sms => bif hp.can && Nat.ble 4 n && Nat.ble n 256 then some (natK hp.nx fun q => .ret (.tup [.one (.ptr q 0), .one (.int .i64 (.lit (.ofNat 0)))], newHp hp (tellE (sms ++ [⟨q, .lit (.ofNat n), []⟩])))) else some (.bad "numbers")
      | none => some (.bad "memories")
    | _ => some (.bad "load")
  else none
section
variable {ft : Ft}
theorem wordO2_ok : OrcOk Tryz.prog memsX ft (wordO2 30) := by
  intro f args hp t h0 C w vs hC h hv
  unfold wordO2 at h0
  cases hb : Nat.beq f 30 with
  | false => rw [hb, cond_false] at h0; cases h0
  | true =>
    rw [hb, cond_true] at h0
    have hff : f = 30 := Nat.eq_of_beq_eq_true hb
    subst hff
    split at h0
    · rename_i p x k
      split at h0
      · rename_i sms i s hma
        cases hok : okE s.n x k with
        | false => rw [hok, cond_false] at h0; cases h0; exact CallOk.bad
        | true =>
          rw [hok, cond_true] at h0
          split at h0
          · rename_i e he
            cases h0
            cases hv with
            | @cons _ v1 _ vs1 q1 q2 =>
            cases q2 with
            | @cons _ v2 _ vs2 q2 q3 =>
            cases q3 with
            | @cons _ v3 _ vs3 q3 q4 =>
            cases q4
            obtain ⟨ms, m, hM, rfl, hr⟩ := memArg_ok hC h hma q1
            obtain ⟨s2, rfl⟩ := q2
            obtain ⟨s3, rfl⟩ := q3
            have hN : m.n ≤ 256 := by obtain ⟨_, _, hh, _⟩ := hr; exact hh.hi
            obtain ⟨k1, k2, k3, k4⟩ := okE_ok s2 hM.sm.n hN hok
            obtain ⟨p1, p2⟩ := splitE_ok s2
            obtain ⟨e1, e2⟩ := wordE_ok (hM.sc s (List.mem_of_getElem? hM.si)).2 p1 (by rw [← p2]; exact k2) k k4 he
            rw [hM.sm.ps, ← p2] at e2
            intro Φ hx
            rw [eK_eq] at hx
            refine (ram_word_ok hr (x.den C.V) (by omega) k3 k k1).mono ?_
            rintro e' w' ⟨rfl, hbel⟩
            obtain ⟨m1, m2⟩ := h.below' hbel
            refine ⟨C, _, .tup [.one (.int .u64 e), .one (.int .i64 (.lit (.ofNat 0)))], hp, rfl, ⟨[_, _], .cons ⟨e1, rfl⟩ (.cons ⟨trivial, rfl⟩ .nil), ?_⟩, m1, m2, hx⟩
            rw [e2]
            rfl
          · cases h0; exact CallOk.bad
      · cases h0; exact CallOk.bad
    · cases h0; exact CallOk.bad
theorem putO2_ok : OrcOk Tryz.prog memsX ft (putO2 48) := by
  intro f args hp t h0 C w vs hC h hv
  unfold putO2 at h0
  cases hb : Nat.beq f 48 with
  | false => rw [hb, cond_false] at h0; cases h0
  | true =>
    rw [hb, cond_true] at h0
    have hff : f = 48 := Nat.eq_of_beq_eq_true hb
    subst hff
    split at h0
    · rename_i p x k v
      split at h0
      · rename_i sms i s hma
        cases hok : (okE s.n x k && pos? v) with
        | false => rw [hok, cond_false] at h0; cases h0; exact CallOk.bad
        | true =>
          rw [hok, cond_true] at h0
          obtain ⟨hok, hpv⟩ := Bool.and_eq_true_iff.1 hok
          cases h0
          cases hv with
          | @cons _ v1 _ vs1 q1 q2 =>
          cases q2 with
          | @cons _ v2 _ vs2 q2 q3 =>
          cases q3 with
          | @cons _ v3 _ vs3 q3 q4 =>
          cases q4 with
          | @cons _ v4 _ vs4 q4 q5 =>
          cases q5
          obtain ⟨ms, m, hM, rfl, hr⟩ := memArg_ok hC h hma q1
          obtain ⟨s2, rfl⟩ := q2
          obtain ⟨s3, rfl⟩ := q3
          obtain ⟨s4, rfl⟩ := q4
          have hN : m.n ≤ 256 := by obtain ⟨_, _, hh, _⟩ := hr; exact hh.hi
          obtain ⟨k1, k2, k3, k4⟩ := okE_ok s2 hM.sm.n hN hok
          have hv0 := pos_ok hpv s4
          obtain ⟨vn, hvn⟩ : ∃ vn : Nat, v.den C.V = vn := ⟨(v.den C.V).toNat, by omega⟩
          intro Φ hx
          rw [hvn]
          refine (ram_put_ok hr (x.den C.V) (by omega) k3 k vn k1).mono ?_
          rintro e' w' ⟨rfl, ht⟩
          have hps : ∀ y ∈ x :: .lit (.ofNat k) :: v :: s.ps, y.sc C.V C.vd := fun y hy => by
            rcases List.mem_cons.1 hy with rfl | hy
            · exact s2
            rcases List.mem_cons.1 hy with rfl | hy
            · trivial
            rcases List.mem_cons.1 hy with rfl | hy
            · exact s4
            · exact (hM.sc s (List.mem_of_getElem? hM.si)).2 y hy
          obtain ⟨C', m1, m2, m3, m4⟩ := h.memSet hC hM hps (w' := w') (by
            simp only [List.map_cons, putsW, den_lit, hM.sm.ps, hvn, Int.toNat_natCast]
            exact ht)
          exact ⟨C', _, .pv (.one (.int .i64 (.lit (.ofNat 0)))), _, rfl, ⟨trivial, rfl⟩, m1, m2, by rw [m3]; exact hx⟩
      · cases h0; exact CallOk.bad
    · cases h0; exact CallOk.bad
theorem pagesO2_ok : OrcOk Tryz.prog memsX ft (pagesO2 63) := by
  intro f args hp t h0 C w vs hC h hv
  unfold pagesO2 at h0
  cases hb : Nat.beq f 63 with
  | false => rw [hb, cond_false] at h0; cases h0
  | true =>
    rw [hb, cond_true] at h0
    have hff : f = 63 := Nat.eq_of_beq_eq_true hb
    subst hff
    split at h0
    · rename_i p
      split at h0
      · rename_i sms i s hma
        cases h0
        cases hv with
        | @cons _ v1 _ vs1 q1 q2 =>
        cases q2
        obtain ⟨ms, m, hM, rfl, hr⟩ := memArg_ok hC h hma q1
        intro Φ hx
        rw [eK_eq] at hx
        refine (ram_pages hr).mono ?_
        rintro e' w' ⟨rfl, rfl⟩
        exact ⟨C, _, .pv (.one (.int .i64 s.n)), hp, rfl, ⟨(hM.sc s (List.mem_of_getElem? hM.si)).1, by rw [hM.sm.n]⟩, h, .refl C w, hx⟩
      · cases h0; exact CallOk.bad
    · cases h0; exact CallOk.bad
theorem ram_forkM {w : World} {b N : Nat} {ct : Nat → Nat} {S : Nat → Prop} (h : RamAt w b N ct S) : Calls Tryz.prog 74 #[.pointer (some ⟨b, 0, none⟩)] w fun e w' => ∃ rb S', e = .returned (.pointer (some ⟨rb, 0, none⟩)) ∧ RamAt w' rb N ct S' ∧ (∀ g, g = rb ∨ S' g → w.heap.size ≤ g) ∧ Below w.heap.size w w' := by
  obtain ⟨m, pg, h1, h2⟩ := h
  refine (ram_fork h1).mono ?_
  rintro e w' ⟨rfl, hb, S, hr, hS⟩
  refine ⟨_, S, rfl, hr, ?_, hb⟩
  rintro g (rfl | hg)
  · omega
  · exact hS g hg
theorem forkO2_ok : OrcOk Tryz.prog memsX ft (forkO2 74) := by
  intro f args hp t h0 C w vs hC h hv
  unfold forkO2 at h0
  cases hb : Nat.beq f 74 with
  | false => rw [hb, cond_false] at h0; cases h0
  | true =>
    rw [hb, cond_true] at h0
    have hff : f = 74 := Nat.eq_of_beq_eq_true hb
    subst hff
    split at h0
    · rename_i p
      split at h0
      · rename_i sms i s hma
        cases hcan : hp.can with
        | false => rw [hcan, cond_false] at h0; cases h0; exact CallOk.bad
        | true =>
          rw [hcan, cond_true] at h0
          cases h0
          cases hv with
          | @cons _ v1 _ vs1 q1 q2 =>
          cases q2
          obtain ⟨ms, m, hM, rfl, hr⟩ := memArg_ok hC h hma q1
          intro Φ hx
          rw [natK_eq] at hx
          refine (ram_forkM hr).mono ?_
          rintro e' w' ⟨rb, S', rfl, r1, r2, r3⟩
          obtain ⟨C', m1, m2, m3, m4, m5⟩ := h.memNew hC hM.told (n := s.n) (ps' := s.ps) (hM.sc s (List.mem_of_getElem? hM.si)).1 (hM.sc s (List.mem_of_getElem? hM.si)).2 hcan hM.sm.n (by rw [hM.sm.ps]; exact r1) r2 r3
          exact ⟨C', _, .pv (.one (.ptr hp.nx 0)), _, rfl, ⟨rb, 1, m5, rfl⟩, m1, m2, by rw [m3]; exact hx⟩
      · cases h0; exact CallOk.bad
    · cases h0; exact CallOk.bad
theorem sameO2_ok : OrcOk Tryz.prog memsX ft (sameO2 33) := by
  intro f args hp t h0 C w vs hC h hv
  unfold sameO2 at h0
  cases hb : Nat.beq f 33 with
  | false => rw [hb, cond_false] at h0; cases h0
  | true =>
    rw [hb, cond_true] at h0
    have hff : f = 33 := Nat.eq_of_beq_eq_true hb
    subst hff
    split at h0
    · rename_i p r
      split at h0
      · rename_i sms i s sms2 i2 s2 hma hmb
        cases hsm : (eSame s.n s2.n && listSame eSame s.ps s2.ps) with
        | false => rw [hsm, cond_false] at h0; cases h0; exact CallOk.bad
        | true =>
          rw [hsm, cond_true] at h0
          cases h0
          obtain ⟨e1, e2⟩ := Bool.and_eq_true_iff.1 hsm
          have e1 := eSame_ok e1
          have e2 := listSame_ok (fun _ _ => eSame_ok) e2
          cases hv with
          | @cons _ v1 _ vs1 q1 q2 =>
          cases q2 with
          | @cons _ v2 _ vs2 q2 q3 =>
          cases q3
          obtain ⟨ms, m, hM, rfl, hr⟩ := memArg_ok hC h hma q1
          obtain ⟨ms2, m2, hM2, rfl, hr2⟩ := memArg_ok hC h hmb q2
          have hn : m.n = m2.n := by
            have a1 := hM.sm.n
            have a2 := hM2.sm.n
            rw [e1, a2] at a1
            omega
          have hp' : m.ps = m2.ps := by rw [← hM.sm.ps, ← hM2.sm.ps, e2]
          intro Φ hx
          obtain ⟨x1, x2, x3, _⟩ := hr
          obtain ⟨y1, y2, y3, _⟩ := hr2
          rw [← hn, ← hp'] at y3
          refine (ram_same x3 y3).mono ?_
          rintro e' w' ⟨⟨v, rfl, hv⟩, hbel⟩
          obtain rfl : v = true := hv.2 fun i _ => rfl
          obtain ⟨m1, m2⟩ := h.below' hbel
          exact ⟨C, _, .pv (.one (.bool (.tt true))), hp, rfl, ⟨trivial, rfl⟩, m1, m2, hx⟩
      · cases h0; exact CallOk.bad
    · cases h0; exact CallOk.bad
theorem loadO2_ok : OrcOk Tryz.prog memsX ft (loadO2 78) := by
  intro f args hp t h0 C w vs hC h hv
  unfold loadO2 at h0
  cases hb : Nat.beq f 78 with
  | false => rw [hb, cond_false] at h0; cases h0
  | true =>
    rw [hb, cond_true] at h0
    have hff : f = 78 := Nat.eq_of_beq_eq_true hb
    subst hff
    split at h0
    · rename_i n
      split at h0
      · rename_i sms hs
        cases hcan : (hp.can && Nat.ble 4 n && Nat.ble n 256) with
        | false => rw [hcan, cond_false] at h0; cases h0; exact CallOk.bad
        | true =>
          rw [hcan, cond_true] at h0
          cases h0
          simp only [Bool.and_eq_true] at hcan
          have h4 : 4 ≤ n := Nat.le_of_ble_eq_true hcan.1.2
          have h256 : n ≤ 256 := Nat.le_of_ble_eq_true hcan.2
          cases hv with
          | @cons _ v1 _ vs1 q1 q2 =>
          cases q2 with
          | @cons _ v2 _ vs2 q2 q3 =>
          cases q3
          obtain ⟨s1, rfl⟩ := q1
          have q2 : v2 = .slice none 0 0 := q2
          subst q2
          intro Φ hx
          rw [natK_eq] at hx
          refine (rom_load_ok n h4 h256 none 0 0 (by omega) w [] ⟨rfl, (fun x hx => nomatch hx), .inl ⟨rfl, rfl⟩⟩ (fun S hS b o s e => nomatch e)).mono ?_
          rintro e' w' ⟨rb, S', rfl, r1, r2, r4, r3⟩
          obtain ⟨C', m1, m2, m3, m4, m5⟩ := h.memNew hC (parseM_ok hs) (n := .lit (.ofNat n)) (ps' := []) (N := n) trivial (fun y hy => nomatch hy) hcan.1.1 rfl r1 (fun g hg => by rcases hg with rfl | hg; (· exact r4); exact r2 g hg) r3
          exact ⟨C', _, .tup [.one (.ptr hp.nx 0), .one (.int .i64 (.lit (.ofNat 0)))], _, rfl, ⟨[_, _], .cons ⟨rb, 1, m5, rfl⟩ (.cons ⟨trivial, rfl⟩ .nil), rfl⟩, m1, m2, by rw [m3]; exact hx⟩
      · cases h0; exact CallOk.bad
    · cases h0; exact CallOk.bad
end
def memOrcs : Orc := orcL [wordO2 30, putO2 48, pagesO2 63, forkO2 74, sameO2 33, loadO2 78]
theorem memOrcs_ok (ft : Ft) : OrcOk Tryz.prog memsX ft memOrcs := orcL_ok fun o ho => by
  simp only [List.mem_cons, List.not_mem_nil, or_false] at ho
  rcases ho with rfl | rfl | rfl | rfl | rfl | rfl
  · exact wordO2_ok
  · exact putO2_ok
  · exact pagesO2_ok
  · exact forkO2_ok
  · exact sameO2_ok
  · exact loadO2_ok
end
end Go.Proofs.YtkogjjeoihnjpaaGreat.Sx
end
