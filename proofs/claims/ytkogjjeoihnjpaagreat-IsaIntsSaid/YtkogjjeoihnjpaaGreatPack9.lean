/- Memory that lies outside a run on terms, told by the words that were put; ram.Word, Put, Pages as contracts. No condition. -/
import Derived.Test.YtkogjjeoihnjpaaGreatPack7
import Derived.Test.YtkogjjeoihnjpaaGreatPack4
import Derived.Test.YtkogjjeoihnjpaaGreatPack8
section
set_option linter.unusedVariables false
set_option linter.unusedSimpArgs false
namespace Go.Proofs.YtkogjjeoihnjpaaGreat.Sx
open Go Go.RowKit
/-- words put one behind the other: the last one first; what may not be put is not -/
def putsL (n : Nat) (ct : Nat → Nat) : List Int → Nat → Nat
  | x :: k :: v :: r => if mayErr n x k = 0 then putWord (putsL n ct r) (x - 2147483648).toNat k.toNat v.toNat else putsL n ct r
  | _ => ct
/-- block b is a memory of n pages; it was ct -/
def ramX (b n : Nat) (ct : Nat → Nat) (px : Nat → Option Value) : Ext :=
  ⟨fun l _ w T => ∃ r S, l = (n : Int) :: r ∧ RamAt w b n (putsL n ct r) S ∧ ∀ g, T g ↔ g = b ∨ S g,
   fun l _ w w' T ⟨r, S, h1, ⟨m, pg, h2, h3⟩, h4⟩ hs hk => ⟨r, S, h1, ⟨m, pg, h2.keep fun g hg => hk g ((h4 g).2 (hg.imp id fun h => h3 ▸ h)), h3⟩, h4⟩,
   fun l _ w T ⟨r, S, h1, h2, h4⟩ k hk => by
     rcases (h4 k).1 hk with rfl | h
     · exact h2.self.2
     · exact h2.lt h, fun _ _ _ _ _ _ h => h, fun _ _ _ _ _ _ _ _ h _ => h, px⟩
theorem mayErr_le (n : Nat) (x k : Int) : 0 ≤ mayErr n x k ∧ mayErr n x k ≤ 6 := by
  unfold mayErr; split <;> (try split) <;> (try split) <;> omega
/-- what ram.Word answers -/
def wordF (ct : Nat → Nat) : List Int → List Int
  | n :: x :: k :: r => if mayErr n.toNat x k = 0 then [(wordAt (putsL n.toNat ct r) (x - 2147483648).toNat k.toNat : Nat), 0] else [0, mayErr n.toNat x k]
  | _ => [0, 0]
/-- why a word may not be -/
def errF : List Int → List Int
  | n :: x :: k :: _ => [mayErr n.toNat x k]
  | _ => [0]
theorem wordAt_lt {ct : Nat → Nat} (h : ∀ i, ct i < 256) {off k : Nat} (hk : k ≤ 8) : wordAt ct off k < 2 ^ 64 :=
  Nat.lt_of_lt_of_le (wordN_lt (fun i => h (off + i)) k) (Nat.pow_le_pow_right (by decide) (by omega))
theorem ksNil (V : Env) : KsOk V [] := fun q hq => by cases hq
theorem inB2 {v e : Int} (h1 : 0 ≤ v) (h2 : v ≤ 18446744073709551615) (h3 : 0 ≤ e) (h4 : e ≤ 6) : InB [U, R 6] [v, e] := ⟨rfl, fun j q m hj hm => by
  match j with
  | 0 => cases hj; cases hm; exact ⟨h1, h2⟩
  | 1 => cases hj; cases hm; exact ⟨h3, h4⟩
  | j + 2 => simp at hj⟩
theorem wordF_in {ct : Nat → Nat} {n : Nat} {x k : Int} {r : List Int} (h : ∀ i, putsL n ct r i < 256) : InB [U, R 6] (wordF ct ((n : Int) :: x :: k :: r)) := by
  have hm := mayErr_le n x k
  simp only [wordF, Int.toNat_natCast]
  split
  · rename_i h0
    obtain ⟨hk, _⟩ := mayErr_0 h0
    have := wordAt_lt h (off := (x - 2147483648).toNat) (k := k.toNat) (by omega)
    exact inB2 (by omega) (by omega) (by omega) (by omega)
  · exact inB2 (by omega) (by omega) hm.1 hm.2
theorem errF_in {n : Nat} {x k : Int} {r : List Int} : InB [R 6] (errF ((n : Int) :: x :: k :: r)) := by
  have hm := mayErr_le n x k
  refine ⟨rfl, fun j q m hj hm' => ?_⟩
  match j with
  | 0 => cases hj; cases hm'; exact hm
  | j + 1 => simp at hj
noncomputable section
/-- is it the memory outside? -/
def isRam (r0 : Nat) : SV → Bool
  | .pv (.one (.ext i)) => Nat.beq i r0
  | _ => false
def wordOrc (f0 : FuncId) (r0 : Nat) : Orc := fun f args hp =>
  bif Nat.beq f f0 then
    match args with
    | [p, .pv (.one (.int .u64 x)), .pv (.one (.int .i64 k))] => bif isRam r0 p then (match hp.gh.m with
      | n :: r => bif inRs hp.gh.k [U] [x] then some (xlets hp 1 (n :: x :: k :: r) [U, R 6] (fun _ => []) fun vs hp => match vs with
        | [v, e] => eK v fun v => eK e fun e => .ret (.tup [.one (.int .u64 v), .one (.int .i64 e)], hp)
        | _ => .bad "word") else some (.bad "word where")
      | _ => some (.bad "word of what")) else some (.bad "word of which")
    | _ => some (.bad "word")
  else none
/-- the memory that is told turns -/
def Hp.mem (hp : Hp) (m : List E) : Hp := { hp with gh := ⟨hp.gh.k, hp.gh.d, m⟩ }
def putOrc (f0 : FuncId) (r0 : Nat) : Orc := fun f args hp =>
  bif Nat.beq f f0 then
    match args with
    | [p, .pv (.one (.int .u64 x)), .pv (.one (.int .i64 k)), .pv (.one (.int .u64 v))] => bif isRam r0 p then (match hp.gh.m with
      | n :: r => bif inRs hp.gh.k [U, U] [x, v] then some (xlets hp 2 [n, x, k] [R 6] (fun _ => []) fun vs hp => match vs with
        | [e] => eK e fun e => .ret (.pv (.one (.int .i64 e)), hp.mem (n :: x :: k :: v :: r))
        | _ => .bad "put") else some (.bad "put where")
      | _ => some (.bad "put of what")) else some (.bad "put of which")
    | _ => some (.bad "put")
  else none
def pagesOrc (f0 : FuncId) (r0 : Nat) : Orc := fun f args hp =>
  bif Nat.beq f f0 then
    match args with
    | [p] => bif isRam r0 p then (match hp.gh.m with
      | n :: r => some (eK n fun n => .ret (.pv (.one (.int .i64 n)), hp))
      | _ => some (.bad "pages of what")) else some (.bad "pages of which")
    | _ => some (.bad "pages")
  else none
section
variable {b n : Nat} {ct : Nat → Nat} {px : Nat → Option Value} {r0 : Nat} {ft : Ft}
theorem isRam_ok {C : Ctx} (hC : C.Is (ramX b n ct px) ft) (hp0 : px r0 = some (.pointer (some ⟨b, 0, none⟩))) {p : SV} {v : Value} (h : isRam r0 p = true) (hr : p.rel C v) : v = .pointer (some ⟨b, 0, none⟩) := by
  unfold isRam at h
  split at h
  · rename_i i
    have : i = r0 := Nat.eq_of_beq_eq_true h
    subst this
    rw [hr.2.1]
    exact (hC.2.2 i _ hp0).2
  · cases h
/-- what is told of the memory -/
theorem gh_mem {C : Ctx} {hp : Hp} {w : World} (hC : C.Is (ramX b n ct px) ft) (h : HRel C hp w) {e : E} {r : List E} (hm : hp.gh.m = e :: r) :
    e.den C.V = n ∧ (∀ x ∈ r, x.sc C.V C.vd) ∧ e.sc C.V C.vd ∧ ∃ S, RamAt w b n (putsL n ct (r.map (E.den C.V))) S ∧ ∀ g, C.S g ↔ g = b ∨ S g := by
  have h1 := h.ext.rel
  rw [hC.2.1, hm] at h1
  obtain ⟨l, S, h2, h3, h4⟩ := h1
  simp only [List.map_cons, List.cons.injEq] at h2
  have hs := h.ext.msc
  rw [hm] at hs
  refine ⟨h2.1, fun x hx => hs x (List.mem_cons_of_mem _ hx), hs e List.mem_cons_self, S, ?_, h4⟩
  rw [h2.2]; exact h3
theorem wordOrc_ok (hp0 : px r0 = some (.pointer (some ⟨b, 0, none⟩))) (hf : ft 1 = wordF ct) : OrcOk Tryz.prog (ramX b n ct px) ft (wordOrc 30 r0) := by
  intro f args hp t h0 C w vs hC h hv
  unfold wordOrc at h0
  cases hb : Nat.beq f 30 with
  | false => rw [hb, cond_false] at h0; cases h0
  | true =>
    rw [hb, cond_true] at h0
    have hff : f = 30 := Nat.eq_of_beq_eq_true hb
    subst hff
    split at h0
    · rename_i p x k
      cases hi : isRam r0 p with
      | false => rw [hi, cond_false] at h0; cases h0; exact CallOk.bad
      | true =>
        rw [hi, cond_true] at h0
        split at h0
        · rename_i e r hm
          cases hin : inRs hp.gh.k [U] [x] with
          | false => rw [hin, cond_false] at h0; cases h0; exact CallOk.bad
          | true =>
            rw [hin, cond_true] at h0
            cases h0
            cases hv with
            | @cons _ v1 _ vs1 q1 q2 =>
            cases q2 with
            | @cons _ v2 _ vs2 q2 q3 =>
            cases q3 with
            | @cons _ v3 _ vs3 q3 q4 =>
            cases q4
            have e1 := isRam_ok hC hp0 hi q1
            obtain ⟨s2, rfl⟩ := q2
            obtain ⟨s3, rfl⟩ := q3
            subst e1
            obtain ⟨g1, g2, g3, S, g4, g5⟩ := gh_mem hC h hm
            intro Φ hx
            have hxr := (inRs_ok h.ks hin (fun y hy => by rw [List.mem_singleton.1 hy]; exact s2)).2 0 U (x.den C.V) rfl rfl
            have hx0 : (0 : Int) ≤ x.den C.V := hxr.1
            have hx1 : x.den C.V ≤ (18446744073709551615 : Int) := hxr.2
            have hin2 : InB [U, R 6] (C.V.f 1 ((e :: x :: k :: r).map (E.den C.V))) := by
              rw [hC.1, hf]
              simp only [List.map_cons, g1]
              exact wordF_in g4.bd
            obtain ⟨C', hp', outs, n1, n2, n3, n4, n5, _⟩ := xlets_ok h (fun y hy => by
              rcases List.mem_cons.1 hy with rfl | hy
              · exact g3
              rcases List.mem_cons.1 hy with rfl | hy
              · exact s2
              rcases List.mem_cons.1 hy with rfl | hy
              · exact s3
              · exact g2 y hy) hin2 (fun _ _ _ _ _ q hq => by cases hq) hx
            rw [hC.1, hf] at n4
            simp only [List.map_cons, g1] at n4
            split at n5
            · rename_i v er
              rw [eK_eq, eK_eq] at n5
              have fin : ∀ (er' : Int) (v' : Nat), wordF ct ((n : Int) :: x.den C.V :: k.den C.V :: r.map (E.den C.V)) = [(v' : Int), er'] → Calls Tryz.prog 30 #[.pointer (some ⟨b, 0, none⟩), .int .u64 (x.den C.V), .int .i64 (k.den C.V)] w (WordOr w · · er' v') →
                  Calls Tryz.prog 30 #[.pointer (some ⟨b, 0, none⟩), .int .u64 (x.den C.V), .int .i64 (k.den C.V)] w fun e w' => ∃ C' v sv hp', e = .returned v ∧ sv.rel C' v ∧ HRel C' hp' w' ∧ Kp C w C' w' ∧ Φ C'.V (sv, hp') := fun er' v' hw hc => by
                rw [hw] at n4
                simp only [List.map_cons, List.map_nil, List.cons.injEq, and_true] at n4
                refine hc.mono ?_
                rintro e w' ⟨rfl, hbel⟩
                obtain ⟨k1, k2⟩ := n1.below' hbel
                refine ⟨C', _, .tup [.one (.int .u64 v), .one (.int .i64 er)], hp', rfl, ⟨[_, _], .cons ⟨n3 v (by simp), rfl⟩ (.cons ⟨n3 er (by simp), rfl⟩ .nil), ?_⟩, k1, n2.trans k2, n5⟩
                rw [n4.1, n4.2]
              by_cases hme : mayErr n (x.den C.V) (k.den C.V) = 0
              · exact fin 0 _ (by simp only [wordF, Int.toNat_natCast]; rw [if_pos hme]) (ram_word_ok g4 _ hx0 (by omega) _ hme)
              · exact fin (mayErr n (x.den C.V) (k.den C.V)) 0 (by simp only [wordF, Int.toNat_natCast]; rw [if_neg hme]; rfl) (ram_word_err g4 _ hx0 (by omega) _ hme)
            · exact n5.elim
        · cases h0; exact CallOk.bad
    · cases h0; exact CallOk.bad
theorem pagesOrc_ok (hp0 : px r0 = some (.pointer (some ⟨b, 0, none⟩))) : OrcOk Tryz.prog (ramX b n ct px) ft (pagesOrc 63 r0) := by
  intro f args hp t h0 C w vs hC h hv
  unfold pagesOrc at h0
  cases hb : Nat.beq f 63 with
  | false => rw [hb, cond_false] at h0; cases h0
  | true =>
    rw [hb, cond_true] at h0
    have hff : f = 63 := Nat.eq_of_beq_eq_true hb
    subst hff
    split at h0
    · rename_i p
      cases hi : isRam r0 p with
      | false => rw [hi, cond_false] at h0; cases h0; exact CallOk.bad
      | true =>
        rw [hi, cond_true] at h0
        split at h0
        · rename_i e r hm
          cases h0
          cases hv with
          | @cons _ v1 _ vs1 q1 q2 =>
          cases q2
          have e1 := isRam_ok hC hp0 hi q1
          subst e1
          obtain ⟨g1, g2, g3, S, g4, g5⟩ := gh_mem hC h hm
          intro Φ hx
          rw [eK_eq] at hx
          refine (ram_pages g4).mono ?_
          rintro e' w' ⟨rfl, rfl⟩
          exact ⟨C, _, .pv (.one (.int .i64 e)), hp, rfl, ⟨g3, by rw [g1]⟩, h, .refl C w, hx⟩
        · cases h0; exact CallOk.bad
    · cases h0; exact CallOk.bad
theorem putOrc_ok (hp0 : px r0 = some (.pointer (some ⟨b, 0, none⟩))) (hf : ft 2 = errF) : OrcOk Tryz.prog (ramX b n ct px) ft (putOrc 48 r0) := by
  intro f args hp t h0 C w vs hC h hv
  unfold putOrc at h0
  cases hb : Nat.beq f 48 with
  | false => rw [hb, cond_false] at h0; cases h0
  | true =>
    rw [hb, cond_true] at h0
    have hff : f = 48 := Nat.eq_of_beq_eq_true hb
    subst hff
    split at h0
    · rename_i p x k v
      cases hi : isRam r0 p with
      | false => rw [hi, cond_false] at h0; cases h0; exact CallOk.bad
      | true =>
        rw [hi, cond_true] at h0
        split at h0
        · rename_i e r hm
          cases hin : inRs hp.gh.k [U, U] [x, v] with
          | false => rw [hin, cond_false] at h0; cases h0; exact CallOk.bad
          | true =>
            rw [hin, cond_true] at h0
            cases h0
            cases hv with
            | @cons _ v1 _ vs1 q1 q2 =>
            cases q2 with
            | @cons _ v2 _ vs2 q2 q3 =>
            cases q3 with
            | @cons _ v3 _ vs3 q3 q4 =>
            cases q4 with
            | @cons _ v4 _ vs4 q4 q5 =>
            cases q5
            have e1 := isRam_ok hC hp0 hi q1
            obtain ⟨s2, rfl⟩ := q2
            obtain ⟨s3, rfl⟩ := q3
            obtain ⟨s4, rfl⟩ := q4
            subst e1
            obtain ⟨g1, g2, g3, S, g4, g5⟩ := gh_mem hC h hm
            intro Φ hx
            have hxr := inRs_ok h.ks hin (fun y hy => by
              rcases List.mem_cons.1 hy with rfl | hy
              · exact s2
              · rw [List.mem_singleton.1 hy]; exact s4)
            have hx0 : (0 : Int) ≤ x.den C.V := (hxr.2 0 U (x.den C.V) rfl rfl).1
            have hx1 : x.den C.V ≤ (18446744073709551615 : Int) := (hxr.2 0 U (x.den C.V) rfl rfl).2
            have hv0 : (0 : Int) ≤ v.den C.V := (hxr.2 1 U (v.den C.V) rfl rfl).1
            have hin2 : InB [R 6] (C.V.f 2 ([e, x, k].map (E.den C.V))) := by
              rw [hC.1, hf]
              simp only [List.map_cons, g1]
              exact errF_in
            obtain ⟨C', hp', outs, n1, n2, n3, n4, n5, n6, n7, n8, n9, n10, n11⟩ := xlets_ok h (fun y hy => by
              rcases List.mem_cons.1 hy with rfl | hy
              · exact g3
              rcases List.mem_cons.1 hy with rfl | hy
              · exact s2
              · rw [List.mem_singleton.1 hy]; exact s3) hin2 (fun _ _ _ _ _ q hq => by cases hq) hx
            rw [hC.1, hf] at n4
            simp only [List.map_cons, List.map_nil, g1, errF, Int.toNat_natCast] at n4
            split at n5
            · rename_i er
              rw [eK_eq] at n5
              simp only [List.map_cons, List.map_nil, List.cons.injEq, and_true] at n4
              have hle := n2.le
              have hd : ∀ {y : E}, y.sc C.V C.vd → y.sc C'.V C'.vd ∧ y.den C'.V = y.den C.V := fun {y} hy => by
                obtain ⟨k1, k2⟩ := E.sc_le hle y hy
                exact ⟨k1, by unfold E.den; rw [k2]⟩
              have hrd : r.map (E.den C'.V) = r.map (E.den C.V) := den_map hle g2
              -- the memory behind it
              have fin : ∀ {w' : World}, RamTo w w' b n (putsL n ct (x.den C.V :: k.den C.V :: v.den C.V :: r.map (E.den C.V))) S →
                  ∃ C'' hp'', HRel C'' hp'' w' ∧ Kp C w C'' w' ∧ C''.V = C'.V ∧ C''.vd = C'.vd ∧ hp'' = hp'.mem (e :: x :: k :: v :: r) := fun {w'} ⟨S', t1, t2, t3⟩ => by
                let C'' : Ctx := { C' with S := fun g => g = b ∨ S' g }
                have hsz := t2.size
                have same : ∀ g, g < w.heap.size → ¬ S g → w'.heap[g]? = w.heap[g]? := t2.block
                have hbS : b < w.heap.size ∧ ¬ S b := ⟨g4.self.2, g4.self.1⟩
                have hSlt : ∀ g, S g → g < w.heap.size := fun g hg => g4.lt hg
                have old : ∀ q blk g c, hget hp'.H q = some blk → C'.bl q = some (g, c) → g < w.heap.size ∧ ¬ C.S g := fun q blk g c hb hq => by
                  rw [n6] at hq
                  rw [n10] at hb
                  exact ⟨h.blt q g c hq, h.apart q blk g c hb hq⟩
                have hnS : ∀ g, ¬ C.S g → ¬ S g ∧ g ≠ b := fun g hg => ⟨fun hs => hg ((g5 g).2 (.inr hs)), fun hs => hg ((g5 g).2 (.inl hs))⟩
                refine ⟨C'', hp'.mem (e :: x :: k :: v :: r), ⟨⟨fun q blk hq => ?_, n1.inj⟩, ⟨?_, ?_, n1.ext.facts, n1.ext.defs⟩, fun q blk g c hqb hq => ?_, n1.own, n1.free, fun q g c hq => Nat.lt_of_lt_of_le (n1.blt q g c hq) hsz⟩, ⟨?_, hsz, t2.tape, t2.os, t2.output, fun g hg ho hs => same g hg (hnS g hs).1, fun g hg => ?_, fun g hg => ?_, fun q g c hq => ?_⟩, rfl, rfl, rfl⟩
                · obtain ⟨g, c, k1, k2⟩ := n1.at_ q blk hq
                  obtain ⟨o1, o2⟩ := old q blk g c hq k1
                  exact ⟨g, c, k1, by rw [same g o1 (hnS g o2).1]; exact Blk.rel.le (C := C') (C' := C'') ⟨fun i hi => ⟨hi, rfl, rfl, rfl⟩, rfl, rfl, fun _ _ h => h⟩ k2⟩
                · rw [n9, hC.2.1]
                  refine ⟨x.den C.V :: k.den C.V :: v.den C.V :: r.map (E.den C.V), S', ?_, t1, fun g => Iff.rfl⟩
                  show (e :: x :: k :: v :: r).map (E.den C'.V) = _
                  simp only [List.map_cons, (hd g3).2, (hd s2).2, (hd s3).2, (hd s4).2, hrd, g1]
                · intro y hy
                  rcases List.mem_cons.1 hy with rfl | hy
                  · exact (hd g3).1
                  rcases List.mem_cons.1 hy with rfl | hy
                  · exact (hd s2).1
                  rcases List.mem_cons.1 hy with rfl | hy
                  · exact (hd s3).1
                  rcases List.mem_cons.1 hy with rfl | hy
                  · exact (hd s4).1
                  · exact (hd (g2 y hy)).1
                · obtain ⟨o1, o2⟩ := old q _ g c hqb hq
                  rintro (rfl | hs)
                  · exact (hnS _ o2).2 rfl
                  · rcases t3 g hs with hs | hs
                    · exact (hnS g o2).1 hs
                    · omega
                · exact ⟨hle.v, hle.f, hle.X, hle.bl⟩
                · rcases hg with rfl | hg
                  · exact .inl ((g5 _).2 (.inl rfl))
                  · rcases t3 g hg with hs | hs
                    · exact .inl ((g5 g).2 (.inr hs))
                    · exact .inr hs
                · rw [show C''.O = C.O from n8] at hg; exact .inl hg
                · exact n2.newbl q g c hq
              have done : ∀ {w' : World}, RamTo w w' b n (putsL n ct (x.den C.V :: k.den C.V :: v.den C.V :: r.map (E.den C.V))) S →
                  ∃ C2 v2 sv hp2, Ending.returned (.int .i64 (mayErr n (x.den C.V) (k.den C.V))) = .returned v2 ∧ sv.rel C2 v2 ∧ HRel C2 hp2 w' ∧ Kp C w C2 w' ∧ Φ C2.V (sv, hp2) := fun {w'} ht => by
                obtain ⟨C'', hp'', m1, m2, m3, m4, rfl⟩ := fin ht
                refine ⟨C'', _, .pv (.one (.int .i64 er)), _, rfl, ⟨by rw [m3, m4]; exact n3 er (by simp), by rw [m3, n4]⟩, m1, m2, by rw [m3]; exact n5⟩
              obtain ⟨vn, hvn⟩ : ∃ vn : Nat, v.den C.V = vn := ⟨(v.den C.V).toNat, by omega⟩
              by_cases hme : mayErr n (x.den C.V) (k.den C.V) = 0
              · rw [hvn]
                refine (ram_put_ok g4 _ hx0 (by omega) _ vn hme).mono ?_
                rintro e' w' ⟨rfl, ht⟩
                have := done (w' := w') (by
                  simp only [putsL]
                  rw [if_pos hme, hvn, Int.toNat_natCast]; exact ht)
                rw [hme] at this; exact this
              · refine (ram_put_err g4 _ hx0 (by omega) _ _ hme).mono ?_
                rintro e' w' ⟨rfl, hbel⟩
                exact done (by
                  simp only [putsL]
                  rw [if_neg hme]; exact g4.to.below hbel)
            · exact n5.elim
        · cases h0; exact CallOk.bad
    · cases h0; exact CallOk.bad
end
end
end Go.Proofs.YtkogjjeoihnjpaaGreat.Sx
end
