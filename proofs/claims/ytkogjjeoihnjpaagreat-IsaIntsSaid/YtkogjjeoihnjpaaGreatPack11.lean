/- A machine over a memory, run on terms: what is known of it, how it goes on; load as a contract. No condition. A machine's load, its accesses as contracts of a run on terms. No condition. -/
import Derived.Test.YtkogjjeoihnjpaaGreatPack9
import Derived.Test.YtkogjjeoihnjpaaGreatPack10
section
set_option linter.unusedVariables false
set_option linter.unusedSimpArgs false
namespace Go.Proofs.YtkogjjeoihnjpaaGreat.Sx
open Go Go.RowKit
noncomputable section
/-! ### what is not looked into plays no part -/
structure Env.Sim (V W : Env) : Prop where
  i : V.i = W.i
  b : V.b = W.b
  f : V.f = W.f
theorem Env.Sim.ev {V W : Env} (h : V.Sim W) : ∀ e : E, e.ev V = e.ev W
  | .lit _ => rfl
  | .var _ _ i => by simp only [E.ev, h.i]
  | .bin _ _ a b => by simp only [E.ev, h.ev a, h.ev b]
  | .pl _ a b => by simp only [E.ev, h.ev a, h.ev b]
  | .cast _ a => by simp only [E.ev, h.ev a]
  | .ite c a b => by simp only [E.ev, h.ev c, h.ev a, h.ev b]
  | .tt _ => rfl
  | .bvar _ => by simp only [E.ev, h.b]
  | .cmp _ a b => by simp only [E.ev, h.ev a, h.ev b]
  | .no a => by simp only [E.ev, h.ev a]
  | .ix n s a => by simp only [E.ev, h.ev a, h.i]
theorem Env.Sim.den {V W : Env} (h : V.Sim W) : E.den V = E.den W := by funext e; unfold E.den; rw [h.ev]
theorem Env.Sim.sc {V W : Env} {d : Nat → Prop} (h : V.Sim W) : ∀ e : E, e.sc W d → e.sc V d
  | .lit _, _ => trivial
  | .var _ _ i, k => by obtain ⟨k1, k2, k3⟩ := k; exact ⟨k1, by rw [h.i]; exact k2, by rw [h.i]; exact k3⟩
  | .bin _ _ a b, k => ⟨h.sc a k.1, h.sc b k.2⟩
  | .pl _ a b, k => ⟨h.sc a k.1, h.sc b k.2⟩
  | .cast _ a, k => h.sc a k
  | .ite c a b, k => ⟨h.sc c k.1, h.sc a k.2.1, h.sc b k.2.2⟩
  | .tt _, _ => trivial
  | .bvar _, k => k
  | .cmp _ a b, k => ⟨h.sc a k.1, h.sc b k.2⟩
  | .no a, k => h.sc a k
  | .ix n s a, k => ⟨h.sc a k.1, by rw [h.den]; exact k.2.1, by rw [h.den]; exact k.2.2.1, fun j hj => by rw [h.i]; exact k.2.2.2 j hj⟩
theorem Env.Sim.lets {V W : Env} (h : V.Sim W) (f : Nat) (es : List E) (s n : Nat) : (V.lets f es s n).Sim (W.lets f es s n) :=
  ⟨by funext j; simp only [Env.lets, h.f, h.i, h.den], h.b, h.f⟩
theorem T.pick_sim {α : Type} {a : α} : ∀ {t : T α} {V W V' : Env}, V.Sim W → t.pick V = some (V', a) → ∃ W', t.pick W = some (W', a) ∧ V'.Sim W'
  | .ret x, V, W, V', h, hp => by cases hp; exact ⟨W, rfl, h⟩
  | .ite c t e, V, W, V', h, hp => by
    have hc : c.tr V = c.tr W := by unfold E.tr; rw [h.ev]
    simp only [T.pick] at hp ⊢
    rw [← hc]
    split at hp
    · rename_i hh; rw [if_pos hh]; exact T.pick_sim h hp
    · rename_i hh; rw [if_neg hh]; exact T.pick_sim h hp
  | .both _ _, V, W, V', h, hp => nomatch hp
  | .lets f es s n t, V, W, V', h, hp => T.pick_sim (t := t) (h.lets f es s n) hp
  | .bad _, V, W, V', h, hp => nomatch hp
  | .skip, V, W, V', h, hp => nomatch hp
/-! ### a machine in block 900, its memory behind number 999 -/
def pxM (b : Nat) (i : Nat) : Option Value := if i = 999 then some (.pointer (some ⟨b, 0, none⟩)) else none
def xM (b : Nat) (cs : List Value) (i : Nat) : Value := if i = 999 then .pointer (some ⟨b, 0, none⟩) else cs.getD (i - 500) Go.undef
def envX (ft : Ft) (args : List Int) (x : Nat → Value) : Env := ⟨fun i => args.getD i 0, fun _ => false, x, ft⟩
theorem envX_sim (ft : Ft) (args : List Int) (x : Nat → Value) : (envX ft args x).Sim (envA ft args) := ⟨rfl, rfl, rfl⟩
def hpM (mrow : List SC) (fk : Ks) (k : Nat) : Hp := ⟨[(900, .cells (mrow ++ [.ext 999]) 94 67 false)], 1000, 1606938044258990275541962092341162602522202993782792835301376, [], ⟨fk, [], [.var (.ofNat 4) (.ofNat 256) k]⟩⟩
def ctxM (ft : Ft) (args : List Int) (b n p : Nat) (ct : Nat → Nat) (cs : List Value) (S : Nat → Prop) : Ctx :=
  ⟨envX ft args (xM b cs), fun i => i < 1000, fun q => if q = 900 then some (p, 1) else none, ramX b n ct (pxM b), fun g => g = b ∨ S g, fun g => g = p⟩
def argsD (ss : List Sh) (d : Nat) (rs : List (Int × Int)) : List SV := .sc (.ptr 900 0) :: (shSVs ss ((vars 0 rs).drop d)).map .pv
section
variable {ft : Ft} {args : List Int} {b n p k d : Nat} {ct : Nat → Nat} {cs : List Value} {S : Nat → Prop} {w : World} {mrow : List SC} {fk : Ks} {rs : List (Int × Int)} {ss : List Sh}
theorem ctxM_is : (ctxM ft args b n p ct cs S).Is (ramX b n ct (pxM b)) ft := ⟨rfl, rfl, fun i v hv => by
  have hv : pxM b i = some v := hv
  unfold pxM at hv
  split at hv
  · rename_i hi
    cases hv
    subst hi
    refine ⟨show 999 < 1000 by omega, ?_⟩
    show xM b cs 999 = _
    unfold xM; rw [if_pos rfl]
  · cases hv⟩
theorem varsM_sc (hi : InB rs args) (hl : rs.length ≤ 500) : ∀ e ∈ vars 0 rs, e.sc (ctxM ft args b n p ct cs S).V (ctxM ft args b n p ct cs S).vd := fun e he => by
  obtain ⟨j, r, h1, rfl⟩ := vars_get he
  have hj : j < rs.length := (List.getElem?_eq_some_iff.1 h1).1
  have := inB_get hi h1
  simp only [Nat.zero_add]
  exact ⟨show j < 1000 by omega, this.1, this.2⟩
theorem varsM_den (hi : InB rs args) : (vars 0 rs).map (E.den (ctxM ft args b n p ct cs S).V) = args := vars_den hi.1 fun j m hj => by
  show args.getD (0 + j) 0 = m
  simp [List.getD, hj]
theorem argsM_rel (hi : InB rs args) (hl : rs.length ≤ 500) : All2 (SV.rel (ctxM ft args b n p ct cs S)) (argsD ss d rs) (.pointer (some ⟨p, 0, none⟩) :: shVs ss (args.drop d)) := by
  refine .cons ⟨p, 1, by simp [ctxM], rfl⟩ ?_
  have := shSVs_rel (C := ctxM ft args b n p ct cs S) ss (l := (vars 0 rs).drop d) fun e he => varsM_sc hi hl e (List.mem_of_mem_drop he)
  rw [List.map_drop, varsM_den hi] at this
  exact this.map_pv
theorem hrelM (hi : InB rs args) (hl : rs.length ≤ 500) (hf : fk.all (fun q => scB rs q.1) = true) (hk : KsOk (env0 args) fk) (hn : rs[k]? = some (.ofNat 4, .ofNat 256)) (hkn : args.getD k 0 = n)
    (hm : MachAt w p b cs) (hrow : All2 (SC.rel (ctxM ft args b n p ct cs S)) mrow cs) (hro : mrow.all SC.ok = true) (hr : RamAt w b n ct S) (hpb : p ≠ b) (hpS : ¬ S p) : HRel (ctxM ft args b n p ct cs S) (hpM mrow fk k) w := by
  have hkl : k < rs.length := (List.getElem?_eq_some_iff.1 hn).1
  have hblk : Blk.rel (ctxM ft args b n p ct cs S) 1 w.heap[p]? (.cells (mrow ++ [.ext 999]) 94 67 false) := by
    refine ⟨cs ++ [Value.pointer (some ⟨b, 0, none⟩)], [], hrow.append (.cons ⟨show 999 < 1000 by omega, ?_, rfl⟩ .nil), by rw [List.append_nil]; exact hm.2, fun _ => rfl, (fun h => nomatch h), by simp [hro, SC.ok]⟩
    show _ = xM b cs 999
    unfold xM; rw [if_pos rfl]
  have hget : ∀ q blk, hget (hpM mrow fk k).H q = some blk → q = 900 ∧ blk = .cells (mrow ++ [.ext 999]) 94 67 false := fun q blk h => by
    simp only [hpM, Sx.hget] at h
    split at h
    · rename_i hq; cases h; exact ⟨hq.symm, rfl⟩
    · cases h
  refine ⟨⟨fun q blk h => ?_, fun q q' blk blk' g c c' h h' _ _ => ?_⟩, ⟨?_, ?_, fun q hq => ⟨?_, ?_⟩, (fun _ h => nomatch h)⟩, fun q blk g c _ h => ?_, fun q blk g c h _ hb => ?_, fun q hq => ?_, fun q g c h => ?_⟩
  · obtain ⟨rfl, rfl⟩ := hget q blk h
    exact ⟨p, 1, by simp [ctxM], hblk⟩
  · rw [(hget q blk h).1, (hget q' blk' h').1]
  · refine ⟨[], S, ?_, ?_, fun g => Iff.rfl⟩
    · show [args.getD k 0] = _
      rw [hkn]
    · exact hr
  · intro e he
    rw [List.mem_singleton.1 (show e ∈ [E.var (.ofNat 4) (.ofNat 256) k] from he)]
    have := inB_get hi hn
    exact ⟨show k < 1000 by omega, this.1, this.2⟩
  · exact (envX_sim ft args _).sc _ (scB_ok (ft := ft) hi (d := fun i => i < 1000) (fun i hi => show i < 1000 by omega) (List.all_eq_true.1 hf q hq))
  · have := hk q hq
    unfold E.tr at *
    rw [show (ctxM ft args b n p ct cs S).V = envX ft args (xM b cs) from rfl, (envX_sim ft args _).ev, ev_env0]; exact this
  · simp only [ctxM] at h
    split at h
    · cases h
      rintro (e | e)
      · exact hpb e
      · exact hpS e
    · cases h
  · obtain ⟨rfl, rfl⟩ := hget q blk h
    simp [ctxM] at hb
    exact hb.1.symm
  · rcases hq with ⟨h1, h2⟩ | ⟨r, hr, _⟩
    · have h1 : 1000 ≤ q := h1
      refine ⟨by simp only [ctxM]; rw [if_neg (by omega)], fun h => ?_⟩
      have h : q < 1000 := h
      omega
    · simp [hpM] at hr
  · simp only [ctxM] at h
    split at h
    · cases h; exact blk_lt hm.2
    · cases h
end
end
end Go.Proofs.YtkogjjeoihnjpaaGreat.Sx
end
section
set_option linter.unusedVariables false
set_option linter.unusedSimpArgs false
namespace Go.Proofs.YtkogjjeoihnjpaaGreat.Sx
open Go Go.RowKit
noncomputable section
/-- is that a machine over the memory outside? -/
def machRow (hp : Hp) (r0 : Nat) : SV → Bool
  | .pv (.one (.ptr q o)) => bif Nat.beq o 0 then (match hget hp.H q with
    | some (.cells row T es false) => bif Nat.beq T 94 then (bif Nat.beq row.length 67 then (match row.drop 66 with
      | [.ext i] => Nat.beq i r0
      | _ => false) else false) else false
    | _ => false) else false
  | _ => false
def loadF (ct : Nat → Nat) : List Int → List Int
  | n :: x :: k :: r => [(loadN n.toNat (putsL n.toNat ct r) x k.toNat : Nat)]
  | _ => [0]
def loadOrc (f0 : FuncId) (r0 : Nat) : Orc := fun f args hp =>
  bif Nat.beq f f0 then
    match args with
    | [p, .pv (.one (.int .u64 x)), .pv (.one (.int .i64 k))] => bif machRow hp r0 p then (match hp.gh.m with
      | n :: r => bif inRs hp.gh.k [U, R 8] [x, k] then some (xlets hp 3 (n :: x :: k :: r) [U] (fun _ => []) fun vs hp => match vs with
        | [v] => eK v fun v => .ret (.pv (.one (.int .u64 v)), hp)
        | _ => .bad "load") else some (.bad "load where")
      | _ => some (.bad "load of what")) else some (.bad "load of which")
    | _ => some (.bad "load")
  else none
/-- how the world goes on: the memory, and no block beside it but p -/
def MachTo (w w' : World) (b n : Nat) (ct : Nat → Nat) (S : Nat → Prop) (p : Nat) : Prop :=
  ∃ S', RamAt w' b n ct S' ∧ Turned (fun g => g = p ∨ g = b ∨ S g) w w' ∧ ∀ g, S' g → S g ∨ w.heap.size ≤ g
section
variable {b n : Nat} {ct : Nat → Nat} {px : Nat → Option Value} {r0 : Nat} {ft : Ft}
theorem machRow_ok {C : Ctx} {hp : Hp} {w : World} (hC : C.Is (ramX b n ct px) ft) (hp0 : px r0 = some (.pointer (some ⟨b, 0, none⟩))) (h : HRel C hp w) {p : SV} {v : Value} (hb : machRow hp r0 p = true) (hr : p.rel C v) :
    ∃ g q c cs, v = .pointer (some ⟨g, 0, none⟩) ∧ C.bl q = some (g, c) ∧ MachAt w g b cs ∧ (∀ x ∈ cs, x.oneCell' = true) ∧ ¬ C.S g := by
  unfold machRow at hb
  split at hb
  · rename_i q o
    obtain ⟨h0, hb1⟩ := and_bif hb
    have h0 : o = 0 := Nat.eq_of_beq_eq_true h0
    split at hb1
    · rename_i row T es hget
      obtain ⟨h1, hb2⟩ := and_bif hb1
      obtain ⟨h2, hb3⟩ := and_bif hb2
      have h1 : T = 94 := Nat.eq_of_beq_eq_true h1
      have h2 : row.length = 67 := Nat.eq_of_beq_eq_true h2
      split at hb3
      · rename_i i hdrop
        have hi : i = r0 := Nat.eq_of_beq_eq_true hb3
        clear hb hb1 hb2 hb3
        subst h0 h1 hi
        obtain ⟨g, c, hg, vs, sp, k1, k2, k3, _, k5⟩ := h.at_ q _ hget
        obtain ⟨g', c', hg', rfl⟩ := hr
        rw [hg] at hg'; cases hg'
        have hl := k1.length
        have hd := k1.drop 66
        rw [hdrop] at hd
        obtain ⟨u, hu⟩ : ∃ u, u = vs.drop 66 := ⟨_, rfl⟩
        rw [← hu] at hd
        cases hd with
        | cons q1 q2 =>
          cases q2
          rename_i v0
          have hv0 : v0 = .pointer (some ⟨b, 0, none⟩) := by rw [q1.2.1]; exact (hC.2.2 _ _ hp0).2
          have hvs : vs = vs.take 66 ++ [Value.pointer (some ⟨b, 0, none⟩)] := by rw [← hv0, hu, List.take_append_drop]
          refine ⟨g, q, c, vs.take 66, rfl, hg, ⟨by simp; omega, ?_⟩, fun x hx => ?_, h.apart q _ g c hget hg⟩
          · rw [k2, k3 rfl, List.append_nil, ← hvs]
          · obtain ⟨j, hj⟩ := List.getElem?_of_mem (List.mem_of_mem_take hx)
            obtain ⟨a, ha, har⟩ := k1.getR j x hj
            exact har.one (List.all_eq_true.1 k5 a (List.mem_of_getElem? ha))
      · cases hb3
    · cases hb1
  · cases hb
theorem loadF_in {x k : Int} {r : List Int} (h : ∀ i, putsL n ct r i < 256) (hk : k ≤ 8) : InB [U] (loadF ct ((n : Int) :: x :: k :: r)) := by
  refine ⟨rfl, fun j q m hj hm => ?_⟩
  match j with
  | 0 =>
    cases hj
    simp only [loadF, List.getElem?_cons_zero, Option.some.injEq, Int.toNat_natCast] at hm
    have := loadN_lt (n := n) h (x := x) (k := k.toNat) (by omega)
    subst hm
    exact ⟨by show (0 : Int) ≤ _; omega, by show _ ≤ (18446744073709551615 : Int); omega⟩
  | j + 1 => simp at hj
theorem loadOrc_ok (hp0 : px r0 = some (.pointer (some ⟨b, 0, none⟩))) (hf : ft 3 = loadF ct) : OrcOk Tryz.prog (ramX b n ct px) ft (loadOrc 65 r0) := by
  intro f args hp t h0 C w vs hC h hv
  unfold loadOrc at h0
  cases hb : Nat.beq f 65 with
  | false => rw [hb, cond_false] at h0; cases h0
  | true =>
    rw [hb, cond_true] at h0
    have hff : f = 65 := Nat.eq_of_beq_eq_true hb
    subst hff
    split at h0
    · rename_i p x k
      cases hi : machRow hp r0 p with
      | false => rw [hi, cond_false] at h0; cases h0; exact CallOk.bad
      | true =>
        rw [hi, cond_true] at h0
        split at h0
        · rename_i e r hm
          cases hin : inRs hp.gh.k [U, R 8] [x, k] with
          | false => rw [hin, cond_false] at h0; cases h0; exact CallOk.bad
          | true =>
            rw [hin, cond_true] at h0
            cases h0
            cases hv with
            | @cons _ v1 _ vs1 q1 q2 =>
            cases q2 with
            | @cons _ v2 _ vs2 q2 q3 =>
            cases q3 with
            | @cons _ v3 _ vs3 q3 q4 =>
            cases q4
            obtain ⟨g, q, c, cs, rfl, hg, hmach, _, _⟩ := machRow_ok hC hp0 h hi q1
            obtain ⟨s2, rfl⟩ := q2
            obtain ⟨s3, rfl⟩ := q3
            obtain ⟨g1, g2, g3, S, g4, g5⟩ := gh_mem hC h hm
            intro Φ hx
            have hxs := inRs_ok h.ks hin (fun y hy => by
              rcases List.mem_cons.1 hy with rfl | hy
              · exact s2
              · rw [List.mem_singleton.1 hy]; exact s3)
            have hx0 : (0 : Int) ≤ x.den C.V := (hxs.2 0 U (x.den C.V) rfl rfl).1
            have hx1 : x.den C.V ≤ (18446744073709551615 : Int) := (hxs.2 0 U (x.den C.V) rfl rfl).2
            have hk0 : (0 : Int) ≤ k.den C.V := (hxs.2 1 (R 8) (k.den C.V) rfl rfl).1
            have hk1 : k.den C.V ≤ (8 : Int) := (hxs.2 1 (R 8) (k.den C.V) rfl rfl).2
            have hin2 : InB [U] (C.V.f 3 ((e :: x :: k :: r).map (E.den C.V))) := by
              rw [hC.1, hf]
              simp only [List.map_cons, g1]
              exact loadF_in g4.bd hk1
            obtain ⟨C', hp', outs, n1, n2, n3, n4, n5, _⟩ := xlets_ok h (fun y hy => by
              rcases List.mem_cons.1 hy with rfl | hy
              · exact g3
              rcases List.mem_cons.1 hy with rfl | hy
              · exact s2
              rcases List.mem_cons.1 hy with rfl | hy
              · exact s3
              · exact g2 y hy) hin2 (fun _ _ _ _ _ q hq => by cases hq) hx
            rw [hC.1, hf] at n4
            simp only [List.map_cons, g1, loadF, Int.toNat_natCast] at n4
            split at n5
            · rename_i v
              rw [eK_eq] at n5
              simp only [List.map_cons, List.map_nil, List.cons.injEq, and_true] at n4
              obtain ⟨kn, hkn⟩ : ∃ kn : Nat, k.den C.V = kn := ⟨(k.den C.V).toNat, by omega⟩
              rw [hkn] at n4 ⊢
              rw [Int.toNat_natCast] at n4
              refine (isa_load hmach g4 (x.den C.V) hx0 (by omega) kn (by omega)).mono ?_
              rintro e' w' ⟨rfl, hbel⟩
              obtain ⟨k1, k2⟩ := n1.below' hbel
              refine ⟨C', _, .pv (.one (.int .u64 v)), hp', rfl, ⟨n3 v (by simp), ?_⟩, k1, n2.trans k2, n5⟩
              rw [n4]
            · exact n5.elim
        · cases h0; exact CallOk.bad
    · cases h0; exact CallOk.bad
/-- the memory that is told turns, and nothing else that is known -/
theorem HRel.memTo {C : Ctx} {hp : Hp} {w w' : World} (hC : C.Is (ramX b n ct px) ft) (h : HRel C hp w) {m : List E} (hs : ∀ e ∈ m, e.sc C.V C.vd) {r : List Int} (hd : m.map (E.den C.V) = (n : Int) :: r) {S' : Nat → Prop} (hr : RamAt w' b n (putsL n ct r) S')
    (hsz : w.heap.size ≤ w'.heap.size) (h1 : w'.tape = w.tape) (h2 : w'.os = w.os) (h3 : w'.output = w.output) (hk : ∀ g, g < w.heap.size → ¬ C.S g → w'.heap[g]? = w.heap[g]?) (hS : ∀ g, S' g → C.S g ∨ w.heap.size ≤ g) (hbS : C.S b) :
    ∃ C'', HRel C'' (hp.mem m) w' ∧ Kp C w C'' w' ∧ C''.V = C.V ∧ C''.vd = C.vd := by
  let C'' : Ctx := { C with S := fun g => g = b ∨ S' g }
  refine ⟨C'', ⟨⟨fun q blk hq => ?_, h.inj⟩, ⟨?_, hs, h.ext.facts, h.ext.defs⟩, fun q blk g c hqb hq => ?_, h.own, h.free, fun q g c hq => Nat.lt_of_lt_of_le (h.blt q g c hq) hsz⟩, ⟨⟨fun i hi => ⟨hi, rfl, rfl, rfl⟩, rfl, rfl, fun _ _ h => h⟩, hsz, h1, h2, h3, fun g hg ho hs => hk g hg hs, fun g hg => ?_, fun g hg => .inl hg, fun q g c hq => .inl ⟨q, c, hq⟩⟩, rfl, rfl⟩
  · obtain ⟨g, c, k1, k2⟩ := h.at_ q blk hq
    exact ⟨g, c, k1, by rw [hk g (h.blt q g c k1) (h.apart q blk g c hq k1)]; exact Blk.rel.le (C := C) (C' := C'') ⟨fun i hi => ⟨hi, rfl, rfl, rfl⟩, rfl, rfl, fun _ _ h => h⟩ k2⟩
  · show C.X.rel _ _ _ _
    rw [hC.2.1]
    exact ⟨r, S', hd, hr, fun g => Iff.rfl⟩
  · rintro (rfl | hs)
    · exact h.apart q blk _ c hqb hq hbS
    · rcases hS g hs with hs | hs
      · exact h.apart q blk g c hqb hq hs
      · have := h.blt q g c hq; omega
  · rcases hg with rfl | hg
    · exact .inl hbS
    · exact hS g hg
end
end
end Go.Proofs.YtkogjjeoihnjpaaGreat.Sx
end
