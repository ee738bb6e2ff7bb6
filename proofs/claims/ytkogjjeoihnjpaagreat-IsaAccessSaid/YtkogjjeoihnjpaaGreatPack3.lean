/- A program run on terms: operators, parts, addresses, slices. No condition. A program run on terms: structs held against each other, fields, indexes, slices of slices. No condition. A program run on terms: tests that were decided are known. No condition. A program run on terms: conversions, fields, indexes, slices, new rows. No condition. A program run on terms: structs and rows built, made, appended, copied. No condition. -/
import Derived.Test.YtkogjjeoihnjpaaGreatPack2
import Derived.Laws.StructEq
import Derived.Laws.Slices
import Derived.Test.YtkogjjeoihnjpaaGreatPack1
import Derived.Laws.MakeOwn
section
set_option linter.unusedVariables false
set_option linter.unusedSimpArgs false
namespace Go.Proofs.YtkogjjeoihnjpaaGreat.Sx
open Go
noncomputable section
section
variable {P : Program} {C : Ctx} {hp : Hp} {w : World}
theorem rel_int {k : IntKind} {e : E} (h : e.sc C.V C.vd) : SV.rel C (.sc (.int k e)) (.int k (e.den C.V)) := ⟨h, rfl⟩
theorem rel_bool {e : E} (h : e.sc C.V C.vd) : SV.rel C (.sc (.bool e)) (.bool (e.tr C.V)) := ⟨h, rfl⟩
theorem Out.int {s : Sem Value} {k : IntKind} {e : E} {n : Int} (h : HRel C hp w) (hs : s.run P w = .ok (.int k n) w) (he : e.sc C.V C.vd ∧ e.den C.V = n) : Out P C w s (.ret (.sc (.int k e), hp)) :=
  Out.pure h hs (by rw [← he.2]; exact rel_int he.1)
theorem Out.bool {s : Sem Value} {e : E} {b : Bool} (h : HRel C hp w) (hs : s.run P w = .ok (.bool b) w) (he : e.sc C.V C.vd ∧ e.tr C.V = b) : Out P C w s (.ret (.sc (.bool e), hp)) :=
  Out.pure h hs (by rw [← he.2]; exact rel_bool he.1)
theorem Out.iff {s : Sem Value} {c : E} {t e : Unit → XR} (hc : c.sc C.V C.vd) (h1 : c.tr C.V = true → Out P C w s (t ())) (h2 : c.tr C.V = false → Out P C w s (e ())) : Out P C w s (T.iff c t e) := by
  intro Φ hx
  have := T.iff_holds hc hx
  cases hb : c.tr C.V with
  | true => exact h1 hb Φ (this.1 hb)
  | false => exact h2 hb Φ (this.2 hb)
/-! ### operators on ints -/
def isCmp : BinOp → Bool
  | .eql | .neq | .lss | .leq | .gtr | .geq => true
  | _ => false
def xbinI (op : BinOp) (k : IntKind) (a : E) (k' : IntKind) (b : E) (hp : Hp) : XR :=
  match op with
  | .shl | .shr => T.iff (mkCmp .lss b (.lit 0)) (fun _ => .bad "shift") (fun _ => .ret (.sc (.int k (mkBin op k a b)), hp))
  | .quo | .rem => if k = k' then T.iff (mkCmp .eql b (.lit 0)) (fun _ => .bad "division") (fun _ => .ret (.sc (.int k (mkBin op k a b)), hp)) else .bad "kinds"
  | .add | .sub | .mul | .and | .or | .xor | .andNot => if k = k' then .ret (.sc (.int k (mkBin op k a b)), hp) else .bad "kinds"
  | .eql | .neq | .lss | .leq | .gtr | .geq => if k = k' then .ret (.sc (.bool (mkCmp op a b)), hp) else .bad "kinds"
theorem xbinI_ok (h : HRel C hp w) (op : BinOp) (k : IntKind) {a : E} (k' : IntKind) {b : E} (t : TypeId) (ha : a.sc C.V C.vd) (hb : b.sc C.V C.vd) :
    Out P C w (binOp op t (.int k (a.den C.V)) (.int k' (b.den C.V))) (xbinI op k a k' b hp) := by
  have sh : ∀ op, (op = .shl ∨ op = .shr) → (mkCmp .lss b (.lit 0)).tr C.V = false → Out P C w (binOp op t (.int k (a.den C.V)) (.int k' (b.den C.V))) (.ret (.sc (.int k (mkBin op k a b)), hp)) := fun op ho hc => by
    have h0 : ¬ b.den C.V < 0 := by
      rw [(mkCmp_ok .lss hb (b := .lit 0) (d := C.vd) trivial).2, den_lit] at hc
      simpa [cmpD] using hc
    refine Out.int h ?_ (mkBin_ok op k ha hb)
    rcases ho with rfl | rfl
    · rw [binOp_shl]; simp [Op.shift, h0, binD]
    · rw [binOp_shr]; simp [Op.shift, h0, binD]
  have dv : ∀ op, (op = .quo ∨ op = .rem) → k = k' → (mkCmp .eql b (.lit 0)).tr C.V = false → Out P C w (binOp op t (.int k (a.den C.V)) (.int k' (b.den C.V))) (.ret (.sc (.int k (mkBin op k a b)), hp)) := fun op ho hk hc => by
    subst hk
    have h0 : ¬ b.den C.V = 0 := by
      rw [(mkCmp_ok .eql hb (b := .lit 0) (d := C.vd) trivial).2, den_lit] at hc
      simpa [cmpD] using hc
    refine Out.int h ?_ (mkBin_ok op k ha hb)
    rcases ho with rfl | rfl
    · rw [binOp_quo]; simp [Op.intDiv, h0, binD]
    · rw [binOp_rem]; simp [Op.intDiv, h0, binD]
  unfold xbinI
  cases op <;> simp only
  case shl => exact Out.iff (mkCmp_ok .lss hb (b := .lit 0) trivial).1 (fun _ => Out.bad) (sh .shl (.inl rfl))
  case shr => exact Out.iff (mkCmp_ok .lss hb (b := .lit 0) trivial).1 (fun _ => Out.bad) (sh .shr (.inr rfl))
  case quo =>
    split
    · rename_i hk; exact Out.iff (mkCmp_ok .eql hb (b := .lit 0) trivial).1 (fun _ => Out.bad) (dv .quo (.inl rfl) hk)
    · exact Out.bad
  case rem =>
    split
    · rename_i hk; exact Out.iff (mkCmp_ok .eql hb (b := .lit 0) trivial).1 (fun _ => Out.bad) (dv .rem (.inr rfl) hk)
    · exact Out.bad
  case add => split; (· rename_i hk; subst hk; refine Out.int h ?_ (mkBin_ok _ k ha hb); rw [binOp_add]; rfl); exact Out.bad
  case sub => split; (· rename_i hk; subst hk; refine Out.int h ?_ (mkBin_ok _ k ha hb); rw [binOp_sub]; rfl); exact Out.bad
  case mul => split; (· rename_i hk; subst hk; refine Out.int h ?_ (mkBin_ok _ k ha hb); rw [binOp_mul]; rfl); exact Out.bad
  case and => split; (· rename_i hk; subst hk; refine Out.int h ?_ (mkBin_ok _ k ha hb); rw [binOp_and]; rfl); exact Out.bad
  case or => split; (· rename_i hk; subst hk; refine Out.int h ?_ (mkBin_ok _ k ha hb); rw [binOp_or]; rfl); exact Out.bad
  case xor => split; (· rename_i hk; subst hk; refine Out.int h ?_ (mkBin_ok _ k ha hb); rw [binOp_xor]; rfl); exact Out.bad
  case andNot => split; (· rename_i hk; subst hk; refine Out.int h ?_ (mkBin_ok _ k ha hb); rw [binOp_andNot]; rfl); exact Out.bad
  case eql => split; (· rename_i hk; subst hk; refine Out.bool h ?_ (mkCmp_ok _ ha hb); rw [binOp_eql]; rfl); exact Out.bad
  case neq => split; (· rename_i hk; subst hk; refine Out.bool h ?_ (mkCmp_ok _ ha hb); rw [binOp_neq]; rfl); exact Out.bad
  case lss => split; (· rename_i hk; subst hk; refine Out.bool h ?_ (mkCmp_ok _ ha hb); rw [binOp_lss]; rfl); exact Out.bad
  case leq => split; (· rename_i hk; subst hk; refine Out.bool h ?_ (mkCmp_ok _ ha hb); rw [binOp_leq]; rfl); exact Out.bad
  case gtr => split; (· rename_i hk; subst hk; refine Out.bool h ?_ (mkCmp_ok _ ha hb); rw [binOp_gtr]; rfl); exact Out.bad
  case geq => split; (· rename_i hk; subst hk; refine Out.bool h ?_ (mkCmp_ok _ ha hb); rw [binOp_geq]; rfl); exact Out.bad
/-! ### equality -/
/-- are both alike? none: not told -/
def xeqC (P : Program) (hs : Hs) (t : TypeId) (x y : SC) : Option E :=
  match x, y, P.underlying t with
  | .int k a, .int k' b, some (.int _) => if k = k' then some (mkCmp .eql a b) else none
  | .bool a, .bool b, some .bool => some (mkIte a b (mkNo b))
  | .str a, .str b, some .string => some (.tt (a == b))
  | .nilp, .nilp, some (.pointer _) => some (.tt true)
  | .nilp, .ptr _ _, some (.pointer _) => some (.tt false)
  | .ptr _ _, .nilp, some (.pointer _) => some (.tt false)
  | .nilp, .epx _, some (.pointer _) => some (.tt false)
  | .epx _, .nilp, some (.pointer _) => some (.tt false)
  | .nils, .nils, some (.slice _) => some (.tt true)
  | .nils, .slice _ _ _ _ _, some (.slice _) => some (.tt false)
  | .slice _ _ _ _ _, .nils, some (.slice _) => some (.tt false)
  | .nilm, .nilm, some (.map _ _) => some (.tt true)
  | .nilm, .map _, some (.map _ _) => some (.tt false)
  | .map _, .nilm, some (.map _ _) => some (.tt false)
  | .nilFunc, .nilFunc, some (.func _ _ _) => some (.tt true)
  | .nilFunc, .fn _ _ _, some (.func _ _ _) => some (.tt false)
  | .fn _ _ _, .nilFunc, some (.func _ _ _) => some (.tt false)
  | .nilIface, .nilIface, some (.interface _) => some (.tt true)
  | .nilIface, .iface _ _, some (.interface _) => some (.tt false)
  | .iface _ _, .nilIface, some (.interface _) => some (.tt false)
  | .ptr b o, .ptr b' o', some (.pointer e) =>
    match P.info? e, hget hs b, hget hs b' with
    | some i, some (.cells _ _ _ _), some (.cells _ _ _ _) => if i.size ≠ 0 then some (.tt (b == b' && o == o')) else none
    | _, _, _ => none
  | _, _, _ => none
theorem same_addr {g g' o o' : Nat} {cs cs' : Array Value} {T T' : TypeId} (h1 : w.heap[g]? = some (.cells cs T (0, 0))) (h2 : w.heap[g']? = some (.cells cs' T' (0, 0))) :
    (sameAddr ⟨g, o, none⟩ ⟨g', o', none⟩).run P w = .ok (decide (g = g' ∧ o = o')) w := by
  have f1 : ∀ o, w.frozen? ⟨g, o, none⟩ = false := fun o => by simp [World.frozen?, h1]
  have f2 : ∀ o, w.frozen? ⟨g', o, none⟩ = false := fun o => by simp [World.frozen?, h2]
  have s1 : w.shape? g = some (T, cs.size) := by simp [World.shape?, h1]
  have s2 : w.shape? g' = some (T', cs'.size) := by simp [World.shape?, h2]
  by_cases hg : g = g'
  · subst hg
    by_cases ho : o = o'
    · subst ho; simp [sameAddr]
    · have : ((⟨g, o, none⟩ : Addr) == ⟨g, o', none⟩) = false := by simp [ho]
      simp [sameAddr, ho]
  · simp [sameAddr, hg, f1, f2, noView, viewAt, s1, s2, mayBeOne, stringish]
theorem xeqC_ok {hs : Hs} (h : HCore C hs w) {t : TypeId} {x y : SC} {e : E} (he : xeqC P hs t x y = some e) {u v : Value} (hu : x.rel C u) (hv : y.rel C v) (d : Nat) :
    e.sc C.V C.vd ∧ (Op.equalIn (d + 1) t u v).run P w = .ok (e.tr C.V) w := by
  unfold xeqC at he
  split at he
  · rename_i k a k' b k2 ht
    split at he
    · rename_i hk; subst hk; cases he
      obtain ⟨h1, rfl⟩ := hu
      obtain ⟨h2, rfl⟩ := hv
      obtain ⟨k1, k3⟩ := mkCmp_ok .eql h1 h2
      exact ⟨k1, by rw [k3, run_equalIn_int w d t _ _ _ _ ht]; rfl⟩
    · cases he
  · rename_i a b ht
    cases he
    obtain ⟨h1, rfl⟩ := hu
    obtain ⟨h2, rfl⟩ := hv
    obtain ⟨n1, n2⟩ := mkNo_ok h2
    obtain ⟨k1, k3⟩ := mkIte_ok h1 h2 n1
    refine ⟨k1, ?_⟩
    rw [k3, n2, run_equalIn_bool' w d t _ _ ht]
    cases a.tr C.V <;> cases b.tr C.V <;> rfl
  · rename_i a b ht
    cases he
    simp only [SC.rel] at hu hv; subst hu; subst hv
    refine ⟨trivial, ?_⟩
    rw [run_equalIn_string w d t _ _ ht, tr_tt, beq_toListBytes]
  all_goals first
    | (rename_i ht; cases he; simp only [SC.rel] at hu hv; subst hu; subst hv; exact ⟨trivial, by simp [Op.equalIn, run_underlying ht, tr_tt]⟩)
    | (rename_i ht; cases he; simp only [SC.rel] at hu hv; obtain ⟨_, rfl⟩ := hu; subst hv; exact ⟨trivial, by simp [Op.equalIn, run_underlying ht, tr_tt]⟩)
    | (rename_i ht; cases he; simp only [SC.rel] at hu hv; obtain ⟨_, rfl⟩ := hv; subst hu; exact ⟨trivial, by simp [Op.equalIn, run_underlying ht, tr_tt]⟩)
    | (rename_i ht; cases he; simp only [SC.rel] at hu hv; obtain ⟨_, _, _, rfl⟩ := hu; subst hv; exact ⟨trivial, by simp [Op.equalIn, run_underlying ht, tr_tt]⟩)
    | (rename_i ht; cases he; simp only [SC.rel] at hu hv; obtain ⟨_, _, _, rfl⟩ := hv; subst hu; exact ⟨trivial, by simp [Op.equalIn, run_underlying ht, tr_tt]⟩)
    | (rename_i ht; cases he; simp only [SC.rel] at hu hv; obtain ⟨_, _, _, rfl, _⟩ := hu; subst hv; exact ⟨trivial, by simp [Op.equalIn, run_underlying ht, tr_tt]⟩)
    | (rename_i ht; cases he; simp only [SC.rel] at hu hv; obtain ⟨_, _, _, rfl, _⟩ := hv; subst hu; exact ⟨trivial, by simp [Op.equalIn, run_underlying ht, tr_tt]⟩)
    | (rename_i ht; cases he; simp only [SC.rel] at hu hv; obtain ⟨_, _, _, _, rfl⟩ := hu; subst hv; exact ⟨trivial, by simp [Op.equalIn, run_underlying ht, tr_tt]⟩)
    | (rename_i ht; cases he; simp only [SC.rel] at hu hv; obtain ⟨_, _, _, _, rfl⟩ := hv; subst hu; exact ⟨trivial, by simp [Op.equalIn, run_underlying ht, tr_tt]⟩)
    | (rename_i ht; cases he; simp only [SC.rel] at hu hv; obtain ⟨_, _, rfl⟩ := hu; subst hv; exact ⟨trivial, by simp [Op.equalIn, run_underlying ht, tr_tt]⟩)
    | (rename_i ht; cases he; simp only [SC.rel] at hu hv; obtain ⟨_, _, rfl⟩ := hv; subst hu; exact ⟨trivial, by simp [Op.equalIn, run_underlying ht, tr_tt]⟩)
    | skip
  · rename_i b o b' o' el ht
    split at he
    · rename_i i r1 T1 s1 l1 r2 T2 s2 l2 hi hb hb'
      split at he
      · rename_i hs
        cases he
        obtain ⟨g, c, k1, rfl⟩ := hu
        obtain ⟨g', c', k2, rfl⟩ := hv
        obtain ⟨q, cq, m1, ⟨vs, sp, _, m2, _⟩⟩ := h.at_ _ _ hb
        obtain ⟨q', cq', m1', ⟨vs', sp', _, m2', _⟩⟩ := h.at_ _ _ hb'
        rw [k1] at m1; cases m1
        rw [k2] at m1'; cases m1'
        refine ⟨trivial, ?_⟩
        have hgg : (g = g') ↔ (b = b') := ⟨fun e => h.inj b b' _ _ g c c' hb hb' k1 (e ▸ k2), fun e => by subst e; rw [k1] at k2; cases k2; rfl⟩
        simp only [Op.equalIn, Sem.run_bind, run_underlying ht, Result.andThen_ok, run_size hi, ne_eq, hs, not_false_eq_true, if_true, tr_tt, Sem.run_ite]
        rw [same_addr m2 m2']
        congr 1
        rw [Bool.eq_iff_iff]
        simp [hgg]
      · cases he
    · cases he
  · cases he
end
end
end Go.Proofs.YtkogjjeoihnjpaaGreat.Sx
end
section
set_option linter.unusedVariables false
set_option linter.unusedSimpArgs false
namespace Go.Proofs.YtkogjjeoihnjpaaGreat.Sx
open Go
noncomputable section
section
variable {P : Program} {C : Ctx} {hp : Hp} {w : World}
theorem xpart_ok {t : TypeId} {row : List SC} {o : Nat} {p : PV} (h : xread P t row o = some p) {vs : List Value} (hv : All2 (SC.rel C) row vs) : ∃ v, (∀ w, (part t vs.toArray o).run P w = .ok v w) ∧ p.rel C v := by
  unfold xread at h
  split at h
  · rename_i ha
    split at h
    · rename_i n hn
      split at h
      · cases h
        refine ⟨.agg ((vs.drop o).take n).toArray, fun w => ?_, _, (hv.drop o).take n, rfl⟩
        simp [part, xagg_ok ha, xsize_ok hn, List.extract_eq_take_drop]
      · cases h
    · cases h
  · rename_i ha
    split at h
    · rename_i c hc
      cases h
      obtain ⟨v, hv1, hv2⟩ := hv.get _ _ hc
      refine ⟨v, fun w => ?_, hv2⟩
      simp [part, xagg_ok ha, hv1]
    · cases h
  · cases h
def xand (a b : Option E) : Option E :=
  match a, b with
  | some a, some b => some (mkIte a b (.tt false))
  | _, _ => none
def xall : List (Option E) → Option E
  | [] => some (.tt true)
  | x :: xs => xand x (xall xs)
def xeqParts (P : Program) (eq : TypeId → PV → PV → Option E) (t : TypeId) (xs ys : List SC) (o : Nat) : Option E :=
  match xread P t xs o, xread P t ys o with
  | some a, some b => eq t a b
  | _, _ => none
def xeqP (P : Program) (hs : Hs) : Nat → TypeId → PV → PV → Option E
  | 0, _, _, _ => none
  | n + 1, t, p, q =>
    match p, q with
    | .one x, .one y => xeqC P hs t x y
    | .agg xs, .agg ys =>
      match P.underlying t with
      | some (.struct fs) => if P.stoodInHeld t then none else xall (fs.toList.map fun f => if f.name ≠ "_" then xeqParts P (xeqP P hs n) f.type xs ys f.offset else some (.tt true))
      | some (.array len e) => match xsize P e with
        | some s => xall ((List.range len).map fun i => xeqParts P (xeqP P hs n) e xs ys (i * s))
        | none => none
      | _ => none
    | _, _ => none
theorem xand_ok {a b : Option E} {e : E} (h : xand a b = some e) : ∃ x y, a = some x ∧ b = some y ∧ (x.sc C.V C.vd → y.sc C.V C.vd → e.sc C.V C.vd ∧ e.tr C.V = (x.tr C.V && y.tr C.V)) := by
  unfold xand at h
  split at h
  · rename_i x y
    cases h
    refine ⟨x, y, rfl, rfl, fun hx hy => ?_⟩
    obtain ⟨k1, k2⟩ := mkIte_ok hx hy (b := .tt false) trivial
    refine ⟨k1, ?_⟩
    rw [k2, tr_tt]
    cases x.tr C.V <;> rfl
  · cases h
theorem xeqP_ok {hs : Hs} (h : HCore C hs w) : ∀ (n : Nat) {t : TypeId} {p q : PV} {e : E}, xeqP P hs n t p q = some e → ∀ {u v : Value}, p.rel C u → q.rel C v → ∀ d, n ≤ d →
    e.sc C.V C.vd ∧ (Op.equalIn d t u v).run P w = .ok (e.tr C.V) w := by
  intro n
  induction n with
  | zero => intro t p q e he; simp [xeqP] at he
  | succ n ih =>
    intro t p q e he u v hu hv d hd
    obtain ⟨d, rfl⟩ : ∃ d', d = d' + 1 := ⟨d - 1, by omega⟩
    have parts : ∀ {t : TypeId} {xs ys : List SC} {us vs : List Value} {o : Nat} {e : E}, All2 (SC.rel C) xs us → All2 (SC.rel C) ys vs → xeqParts P (xeqP P hs n) t xs ys o = some e →
        e.sc C.V C.vd ∧ ∃ a b, (∀ w, (part t us.toArray o).run P w = .ok a w) ∧ (∀ w, (part t vs.toArray o).run P w = .ok b w) ∧ (Op.equalIn d t a b).run P w = .ok (e.tr C.V) w := by
      intro t xs ys us vs o e hx hy he
      unfold xeqParts at he
      split at he
      · rename_i a b ha hb
        obtain ⟨a', h1, h2⟩ := xpart_ok ha hx
        obtain ⟨b', h3, h4⟩ := xpart_ok hb hy
        obtain ⟨k1, k2⟩ := ih he h2 h4 d (by omega)
        exact ⟨k1, a', b', h1, h3, k2⟩
      · cases he
    unfold xeqP at he
    split at he
    · exact xeqC_ok h he hu hv d
    · rename_i xs ys
      obtain ⟨us, hus, rfl⟩ := hu
      obtain ⟨vs, hvs, rfl⟩ := hv
      split at he
      · rename_i fs ht
        split at he
        · cases he
        · rename_i hst
          have hf : P.fieldsOf t = fs := by simp [Program.fieldsOf, ht]
          rw [run_equalIn_struct w d t _ _ (by rw [hf]; exact ht) (by simpa using hst), hf]
          clear ht hf hst
          generalize fs.toList = l at he
          induction l generalizing e with
          | nil => simp only [List.map_nil, xall, Option.some.injEq] at he; subst he; exact ⟨trivial, rfl⟩
          | cons f l ihl =>
            simp only [List.map_cons, xall] at he
            obtain ⟨x, y, hx, hy, hk⟩ := xand_ok (C := C) he
            obtain ⟨y1, y2⟩ := ihl hy
            split at hx
            · rename_i hn
              obtain ⟨x1, a, b, p1, p2, p3⟩ := parts hus hvs hx
              obtain ⟨k1, k2⟩ := hk x1 y1
              refine ⟨k1, ?_⟩
              simp only [Op.eqFields, if_pos hn, Sem.run_bind, p1, p2, p3, Result.andThen_ok, k2, Sem.run_ite]
              cases hb : x.tr C.V
              · simp
              · simp [y2]
            · rename_i hn
              cases hx
              obtain ⟨k1, k2⟩ := hk trivial y1
              refine ⟨k1, ?_⟩
              simp only [Op.eqFields, if_neg hn, y2, k2, tr_tt, Bool.true_and]
      · rename_i len el ht
        split at he
        · rename_i s hs
          rw [List.range_eq_range'] at he
          simp only [Op.equalIn, Sem.run_bind, run_underlying ht, Result.andThen_ok, xsize_ok hs, Std.Legacy.Range.forIn_eq_forIn_range', Std.Legacy.Range.size, Nat.sub_zero, Nat.add_sub_cancel, Nat.div_one]
          clear ht
          generalize List.range' 0 len 1 = l at he ⊢
          induction l generalizing e with
          | nil => simp only [List.map_nil, xall, Option.some.injEq] at he; subst he; exact ⟨trivial, by simp [tr_tt]⟩
          | cons i l ihl =>
            simp only [List.map_cons, xall] at he
            obtain ⟨x, y, hx, hy, hk⟩ := xand_ok (C := C) he
            obtain ⟨y1, y2⟩ := ihl hy
            obtain ⟨x1, a, b, p1, p2, p3⟩ := parts hus hvs hx
            obtain ⟨k1, k2⟩ := hk x1 y1
            refine ⟨k1, ?_⟩
            simp only [List.forIn_cons, Sem.run_bind, p1, p2, p3, Result.andThen_ok, k2]
            cases hb : x.tr C.V
            · simp
            · simp only [Bool.not_true, Bool.false_eq_true, if_false, Sem.run_pure, Result.andThen_ok, Bool.true_and]
              exact y2
        · cases he
      · cases he
    · cases he
/-! ### operators -/
def bytesLt : List UInt8 → List UInt8 → Bool := Op.bytesLess
def strD (op : BinOp) (a b : ByteArray) : Option SC :=
  match op with
  | .add => if ((a.size + b.size : Nat) : Int) > 9223372036854775807 then none else some (.str (a ++ b))
  | .eql => some (.bool (.tt (a.toList == b.toList)))
  | .neq => some (.bool (.tt (!(a.toList == b.toList))))
  | .lss => some (.bool (.tt (Op.bytesLess a.toList b.toList)))
  | .leq => some (.bool (.tt (Op.bytesLess a.toList b.toList || a.toList == b.toList)))
  | .gtr => some (.bool (.tt (!(Op.bytesLess a.toList b.toList || a.toList == b.toList))))
  | .geq => some (.bool (.tt (!Op.bytesLess a.toList b.toList)))
  | _ => none
def isNilI : SV → Bool
  | .pv (.one .nilIface) => true
  | _ => false
def isAggV : SV → Bool
  | .pv (.agg _) => true
  | _ => false
def isConst : Operand → Bool
  | .const _ => true
  | _ => false
def xbin (P : Program) (op : BinOp) (t : TypeId) (xo yo : Operand) (x y : SV) (hp : Hp) : XR :=
  match x, y with
  | .pv (.one (.int k a)), .pv (.one (.int k' b)) => xbinI op k a k' b hp
  | .pv (.one (.str a)), .pv (.one (.str b)) => match strD op a b with
    | some c => .ret (.sc c, hp)
    | none => .bad "strings"
  | .pv p, .pv q =>
    if (isNilI x && isNilI y && !isConst xo && !isConst yo) || ((isAggV x || isAggV y) && P.eqGuardType P.depth t) then .bad "eql interfaces" else
    match op, xeqP P hp.H 64 t p q with
    | .eql, some e => .ret (.sc (.bool e), hp)
    | .neq, some e => .ret (.sc (.bool (mkNo e)), hp)
    | _, _ => .bad "no such operator"
  | _, _ => .bad "no such operator"
def numV : Value → Bool
  | .int _ _ => true
  | .float _ _ => true
  | .complex _ _ _ => true
  | .string _ => true
  | _ => false
theorem binOp_eq {t : TypeId} {u v : Value} (h : numV u = false ∨ numV v = false) : binOp .eql t u v = (do pure (.bool (← Op.equal t u v))) ∧ binOp .neq t u v = (do pure (.bool (!(← Op.equal t u v)))) := by
  cases u <;> cases v <;> first | exact ⟨rfl, rfl⟩ | (simp [numV] at h)
theorem eqGuard_pv {op : BinOp} {t : TypeId} {xo yo : Operand} {p q : PV} {u v : Value} (hu : p.rel C u) (hv : q.rel C v) (hpe : ∀ i, p ≠ .one (.ext i)) (hqe : ∀ i, q ≠ .one (.ext i))
    (hg : ¬ ((isNilI (.pv p) && isNilI (.pv q) && !isConst xo && !isConst yo) || ((isAggV (.pv p) || isAggV (.pv q)) && P.eqGuardType P.depth t)) = true) : (eqGuard op t xo yo u v).run P w = .ok () w := by
  have base : (∀ a, u ≠ .agg a ∨ ∀ b, v ≠ .agg b) → (u ≠ .nilIface ∨ v ≠ .nilIface) → (eqGuard op t xo yo u v).run P w = .ok () w := fun h1 h2 => by
    cases op <;> first | rfl | skip
    all_goals
      cases u <;> cases v <;> first | rfl | (exfalso; simp at h1; done) | (exfalso; simp at h2; done)
  cases p with
  | agg xs =>
    obtain ⟨us, _, rfl⟩ := hu
    simp [isAggV, isNilI] at hg
    cases q with
    | agg ys =>
      obtain ⟨vs, _, rfl⟩ := hv
      exact run_eqGuard_agg w op t xo yo _ _ hg
    | one y =>
      refine base (fun a => .inr fun b e => ?_) (.inl (by simp))
      have := SC.rel.cells hv
      subst e
      cases y <;> simp only [PV.rel, SC.rel] at hv <;> first | (cases hv; done) | (obtain ⟨_, hv⟩ := hv; cases hv; done) | (obtain ⟨_, _, _, hv⟩ := hv; cases hv; done) | (obtain ⟨_, _, _, hv, _⟩ := hv; cases hv; done) | (obtain ⟨_, _, _, _, hv⟩ := hv; cases hv; done) | (obtain ⟨_, _, _, _, _, _, hv, _⟩ := hv; cases hv; done) | (obtain ⟨_, _, _, _, _, _, hv⟩ := hv; cases hv; done) | (obtain ⟨_, _, hv⟩ := hv; cases hv; done) | (have := hv.2.2; simp [Value.oneCell'] at this)
  | one x =>
    have hna : ∀ a, u ≠ .agg a := fun a e => by
      subst e
      cases x <;> simp only [PV.rel, SC.rel] at hu <;> first | (cases hu; done) | (obtain ⟨_, hu⟩ := hu; cases hu; done) | (obtain ⟨_, _, _, hu⟩ := hu; cases hu; done) | (obtain ⟨_, _, _, hu, _⟩ := hu; cases hu; done) | (obtain ⟨_, _, _, _, hu⟩ := hu; cases hu; done) | (obtain ⟨_, _, _, _, _, _, hu, _⟩ := hu; cases hu; done) | (obtain ⟨_, _, _, _, _, _, hu⟩ := hu; cases hu; done) | (obtain ⟨_, _, hu⟩ := hu; cases hu; done) | (have := hu.2.2; simp [Value.oneCell'] at this)
    by_cases hn : u = .nilIface ∧ v = .nilIface
    · obtain ⟨rfl, rfl⟩ := hn
      cases hx : isConst xo with
      | true => cases xo <;> simp [isConst] at hx; exact congrArg (fun s : Sem Unit => s.run P w) (eqGuard_nil_constL op t yo _ )
      | false =>
        cases hy : isConst yo with
        | true => cases yo <;> simp [isConst] at hy; exact congrArg (fun s : Sem Unit => s.run P w) (eqGuard_nil_constR op t xo _ )
        | false =>
          exfalso
          have h1 : x = .nilIface := by
            cases x <;> simp only [PV.rel, SC.rel] at hu <;> first | rfl | (cases hu; done) | (obtain ⟨_, hu⟩ := hu; cases hu; done) | (obtain ⟨_, _, _, hu⟩ := hu; cases hu; done) | (obtain ⟨_, _, _, hu, _⟩ := hu; cases hu; done) | (obtain ⟨_, _, _, _, hu⟩ := hu; cases hu; done) | (obtain ⟨_, _, _, _, _, _, hu, _⟩ := hu; cases hu; done) | (obtain ⟨_, _, _, _, _, _, hu⟩ := hu; cases hu; done) | (obtain ⟨_, _, hu⟩ := hu; cases hu; done) | exact absurd rfl (hpe _)
          subst h1
          cases q with
          | agg ys => obtain ⟨_, _, hv⟩ := hv; cases hv
          | one y =>
            have h2 : y = .nilIface := by
              cases y <;> simp only [PV.rel, SC.rel] at hv <;> first | rfl | (cases hv; done) | (obtain ⟨_, hv⟩ := hv; cases hv; done) | (obtain ⟨_, _, _, hv⟩ := hv; cases hv; done) | (obtain ⟨_, _, _, hv, _⟩ := hv; cases hv; done) | (obtain ⟨_, _, _, _, hv⟩ := hv; cases hv; done) | (obtain ⟨_, _, _, _, _, _, hv, _⟩ := hv; cases hv; done) | (obtain ⟨_, _, _, _, _, _, hv⟩ := hv; cases hv; done) | (obtain ⟨_, _, hv⟩ := hv; cases hv; done) | exact absurd rfl (hqe _)
            subst h2
            simp [isNilI, hx, hy] at hg
    · refine base (fun a => .inl (hna a)) ?_
      by_cases e : u = .nilIface
      · exact .inr fun e2 => hn ⟨e, e2⟩
      · exact .inl e
theorem xeqP_notExt {hs : Hs} {n : Nat} {t : TypeId} {p q : PV} {e : E} (h : xeqP P hs n t p q = some e) : (∀ i, p ≠ .one (.ext i)) ∧ (∀ i, q ≠ .one (.ext i)) := by
  cases n with
  | zero => simp [xeqP] at h
  | succ n =>
    constructor
    · intro i hi; subst hi
      cases q <;> simp [xeqP, xeqC] at h
    · intro i hi; subst hi
      cases p with
      | one x => cases x <;> simp [xeqP, xeqC] at h
      | agg xs => simp [xeqP] at h
theorem xeqP_num {hs : Hs} {n : Nat} {t : TypeId} {p q : PV} {e : E} (h : xeqP P hs n t p q = some e) (hni : ∀ k a k' b, p = .one (.int k a) → q = .one (.int k' b) → False) (hns : ∀ a b, p = .one (.str a) → q = .one (.str b) → False)
    {u v : Value} (hu : p.rel C u) : numV u = false := by
  have hx := (xeqP_notExt h).1
  cases n with
  | zero => simp [xeqP] at h
  | succ n =>
    cases p with
    | agg xs => obtain ⟨_, _, rfl⟩ := hu; rfl
    | one x =>
      cases q with
      | agg ys => simp [xeqP] at h
      | one y =>
        simp only [xeqP] at h
        cases x <;> simp only [PV.rel, SC.rel] at hu
        case int => exfalso; cases y <;> simp [xeqC] at h; exact hni _ _ _ _ rfl rfl
        case str => exfalso; cases y <;> simp [xeqC] at h; exact hns _ _ rfl rfl
        case ext => exact absurd rfl (hx _)
        case xs => obtain ⟨_, _, _, _, _, _, rfl, _⟩ := hu; rfl
        case px => obtain ⟨_, _, _, _, _, _, rfl⟩ := hu; rfl
        all_goals first
          | (subst hu; rfl)
          | (obtain ⟨_, rfl⟩ := hu; rfl)
          | (obtain ⟨_, _, _, rfl⟩ := hu; rfl)
          | (obtain ⟨_, _, _, rfl, _⟩ := hu; rfl)
          | (obtain ⟨_, _, _, _, rfl⟩ := hu; rfl)
          | (obtain ⟨_, _, rfl⟩ := hu; rfl)
theorem xbin_ok (h : HRel C hp w) (op : BinOp) (t : TypeId) (xo yo : Operand) {x y : SV} {u v : Value} (hu : x.rel C u) (hv : y.rel C v) :
    Out P C w (do eqGuard op t xo yo u v; binOp op t u v) (xbin P op t xo yo x y hp) := by
  unfold xbin
  split
  · rename_i k a k' b
    obtain ⟨h1, rfl⟩ := hu
    obtain ⟨h2, rfl⟩ := hv
    have := xbinI_ok (P := P) h op k k' t h1 h2
    rw [eqGuard_at_int]
    simpa using this
  · rename_i a b
    have hu' : u = .string a := hu
    have hv' : v = .string b := hv
    subst hu'; subst hv'
    split
    · rename_i c hc
      have e : binOp op t (.string a) (.string b) = Op.stringOp op a b := by cases op <;> rfl
      rw [eqGuard_at_string, e]
      unfold strD at hc
      cases op <;> simp only at hc <;> try (cases hc; done)
      case add =>
        split at hc
        · cases hc
        · rename_i hs
          cases hc
          refine Out.pure h (v := .string (a ++ b)) ?_ rfl
          simp only [Op.stringOp, IntKind.max_i64]
          simp
          omega
      all_goals (cases hc; refine Out.bool h ?_ ⟨trivial, rfl⟩; simp [Op.stringOp, tr_tt])
    · exact Out.bad
  · rename_i p q hni hns
    split
    · exact Out.bad
    · rename_i hg
      split
      · rename_i e he
        obtain ⟨e1, e2⟩ := xeqP_notExt he
        obtain ⟨k1, k2⟩ := xeqP_ok (w := w) h.toHCore 64 he hu hv 10000 (by decide)
        have hnum : numV u = false ∨ numV v = false := .inl (xeqP_num he hni hns (v := v) hu)
        refine Out.bool h ?_ ⟨k1, rfl⟩
        rw [Sem.run_bind, eqGuard_pv hu hv e1 e2 hg, (binOp_eq hnum).1]
        simp only [Result.andThen_ok, Sem.run_bind, Op.equal, Op.maxDepth, k2, Sem.run_pure]
      · rename_i e he
        obtain ⟨e1, e2⟩ := xeqP_notExt he
        obtain ⟨k1, k2⟩ := xeqP_ok (w := w) h.toHCore 64 he hu hv 10000 (by decide)
        have hnum : numV u = false ∨ numV v = false := .inl (xeqP_num he hni hns (v := v) hu)
        obtain ⟨n1, n2⟩ := mkNo_ok k1
        refine Out.bool h ?_ ⟨n1, n2⟩
        rw [Sem.run_bind, eqGuard_pv hu hv e1 e2 hg, (binOp_eq hnum).2]
        simp only [Result.andThen_ok, Sem.run_bind, Op.equal, Op.maxDepth, k2, Sem.run_pure]
      · exact Out.bad
  · exact Out.bad
end
end
end Go.Proofs.YtkogjjeoihnjpaaGreat.Sx
end
section
set_option linter.unusedVariables false
set_option linter.unusedSimpArgs false
namespace Go.Proofs.YtkogjjeoihnjpaaGreat.Sx
open Go
noncomputable section
/-! ### what is known of a test -/
abbrev Ks := List (E × Bool)
def lookX (c : E) : Ks → Option Bool
  | [] => none
  | (e, b) :: r => bif eEq e c then some b else lookX c r
def KsOk (V : Env) (k : Ks) : Prop := ∀ q ∈ k, q.1.tr V = q.2
theorem KsOk.tail {V : Env} {q : E × Bool} {k : Ks} (h : KsOk V (q :: k)) : KsOk V k := fun x hx => h x (List.mem_cons_of_mem _ hx)
theorem lookX_ok {V : Env} {c : E} : ∀ {k : Ks} {b : Bool}, KsOk V k → lookX c k = some b → c.tr V = b
  | [], b, _, h => nomatch h
  | (e, b0) :: r, b, hk, h => by
    unfold lookX at h
    cases he : eEq e c with
    | true => rw [he, cond_true] at h; cases h; rw [← eEq_tr he]; exact hk _ List.mem_cons_self
    | false => rw [he, cond_false] at h; exact lookX_ok hk.tail h
/-- bounds made narrower by a test against a number -/
def tight (op : BinOp) (b : Bool) (n l h : Int) : Int × Int :=
  match op, b with
  | .eql, true => (max l n, min h n)
  | .neq, false => (max l n, min h n)
  | .eql, false => (if l = n then l + 1 else l, if h = n then h - 1 else h)
  | .neq, true => (if l = n then l + 1 else l, if h = n then h - 1 else h)
  | .lss, true => (l, min h (n - 1))
  | .lss, false => (max l n, h)
  | .leq, true => (l, min h n)
  | .leq, false => (max l (n + 1), h)
  | .gtr, true => (max l (n + 1), h)
  | .gtr, false => (l, min h n)
  | .geq, true => (max l n, h)
  | .geq, false => (l, min h (n - 1))
  | _, _ => (l, h)
theorem tight_ok {op : BinOp} {b : Bool} {n l h x : Int} (hx : cmpD op x n = b) (h1 : l ≤ x) (h2 : x ≤ h) : (tight op b n l h).1 ≤ x ∧ x ≤ (tight op b n l h).2 := by
  cases op <;> cases b <;> simp only [cmpD, beq_eq_false_iff_ne, bne_eq_false_iff_eq, beq_iff_eq, bne_iff_ne, ne_eq, decide_eq_true_eq, decide_eq_false_iff_not] at hx <;> simp only [tight] <;>
    first
    | exact ⟨h1, h2⟩
    | (constructor <;> (try split) <;> omega)
def tightO (op : BinOp) (b : Bool) (n : Int) (r : Option (Int × Int)) : Option (Int × Int) :=
  match r with
  | some (l, h) => some (tight op b n l h)
  | none => match op, b with
    | .eql, true => some (n, n)
    | .neq, false => some (n, n)
    | _, _ => none
def InR (x : Int) (r : Option (Int × Int)) : Prop := ∀ l h, r = some (l, h) → l ≤ x ∧ x ≤ h
theorem tightO_ok {op : BinOp} {b : Bool} {n x : Int} {r : Option (Int × Int)} (hx : cmpD op x n = b) (hr : InR x r) : InR x (tightO op b n r) := by
  intro l h e
  cases r with
  | some q =>
    obtain ⟨l0, h0⟩ := q
    obtain ⟨h1, h2⟩ := hr l0 h0 rfl
    have := tight_ok hx h1 h2
    simp only [tightO, Option.some.injEq] at e
    rw [e] at this
    exact this
  | none =>
    unfold tightO at e
    split at e
    · rename_i h0; cases h0
    · split at e
      · cases e
        simp only [cmpD, beq_iff_eq] at hx
        omega
      · cases e
        simp only [cmpD, bne_eq_false_iff_eq] at hx
        omega
      · cases e
def bdF (a : E) : Ks → Option (Int × Int) → Option (Int × Int)
  | [], r => r
  | (q, b) :: t, r => bdF a t (match q with
    | .cmp op x (.lit n) => bif eEq a x then tightO op b n r else r
    | _ => r)
theorem bdF_ok {V : Env} {a : E} : ∀ {k : Ks} {r : Option (Int × Int)}, KsOk V k → InR (a.den V) r → InR (a.den V) (bdF a k r)
  | [], r, _, hr => hr
  | (q, b) :: t, r, hk, hr => by
    unfold bdF
    refine bdF_ok hk.tail ?_
    split
    · rename_i op x n
      cases he : eEq a x with
      | true =>
        rw [cond_true]
        refine tightO_ok ?_ hr
        have := hk (.cmp op x (.lit n), b) List.mem_cons_self
        simp only [tr_cmp, den_lit] at this
        rw [eEq_den he]; exact this
      | false => exact hr
    · exact hr
/-- a test between bounds -/
def cmpR (op : BinOp) (l h l' h' : Int) : Option Bool :=
  match op with
  | .lss => if h < l' then some true else if h' ≤ l then some false else none
  | .leq => if h ≤ l' then some true else if h' < l then some false else none
  | .gtr => if h' < l then some true else if h ≤ l' then some false else none
  | .geq => if h' ≤ l then some true else if h < l' then some false else none
  | .eql => if h < l' ∨ h' < l then some false else if l = h ∧ l' = h' ∧ l = l' then some true else none
  | .neq => if h < l' ∨ h' < l then some true else if l = h ∧ l' = h' ∧ l = l' then some false else none
  | _ => none
theorem cmpR_ok {op : BinOp} {l h l' h' x y : Int} {b : Bool} (hx : l ≤ x ∧ x ≤ h) (hy : l' ≤ y ∧ y ≤ h') (he : cmpR op l h l' h' = some b) : cmpD op x y = b := by
  cases op <;> simp only [cmpR] at he <;> (repeat' split at he) <;> (first | (cases he; done) | skip) <;> cases he <;> simp [cmpD] <;> omega
def turnK : BinOp → Option BinOp
  | .lss => some .geq
  | .geq => some .lss
  | .leq => some .gtr
  | .gtr => some .leq
  | .eql => some .neq
  | .neq => some .eql
  | _ => none
theorem turnK_ok {op op' : BinOp} (h : turnK op = some op') (x y : Int) : cmpD op x y = !cmpD op' x y := by
  cases op <;> simp only [turnK, Option.some.injEq] at h <;> first | (cases h; done) | (subst h; simp only [cmpD]) | skip
  all_goals first
    | (cases h1 : decide (x < y) <;> cases h2 : decide (x ≥ y) <;> simp_all <;> omega)
    | (cases h1 : decide (x ≤ y) <;> cases h2 : decide (x > y) <;> simp_all <;> omega)
    | (cases h1 : (x == y) <;> simp_all [bne])
/-- a test the other way round, looked for exactly -/
def lookT (c : E) (k : Ks) : Option Bool :=
  match lookX c k with
  | some x => some x
  | none => match c with
    | .cmp op a b => match turnK op with
      | some op' => match lookX (.cmp op' a b) k with
        | some x => some (!x)
        | none => none
      | none => none
    | _ => none
theorem lookT_ok {V : Env} {c : E} {k : Ks} {b : Bool} (hk : KsOk V k) (h : lookT c k = some b) : c.tr V = b := by
  unfold lookT at h
  split at h
  · rename_i x hx; cases h; exact lookX_ok hk hx
  · split at h
    · rename_i op a e
      split at h
      · rename_i op' ho
        split at h
        · rename_i z hz
          cases h
          have := lookX_ok hk hz
          rw [tr_cmp] at this ⊢
          rw [turnK_ok ho, this]
        · cases h
      · cases h
    · cases h
/-- one of two, where the other one is not -/
def lookO (c : E) (k : Ks) : Ks → Option Bool
  | [] => none
  | (.ite a (.tt true) b, true) :: r =>
    bif eEq b c then (match lookT a k with | some false => some true | _ => lookO c k r)
    else bif eEq a c then (match lookT b k with | some false => some true | _ => lookO c k r)
    else lookO c k r
  | _ :: r => lookO c k r
theorem lookO_ok {V : Env} {c : E} {k : Ks} (hk : KsOk V k) : ∀ {r : Ks} {b : Bool}, KsOk V r → lookO c k r = some b → c.tr V = b
  | [], b, _, h => nomatch h
  | q :: r, x, hr, h => by
    unfold lookO at h
    split at h
    · rename_i heq; cases heq
    · rename_i a b r' heq
      cases heq
      have h0 := hr (.ite a (.tt true) b, true) List.mem_cons_self
      simp only [tr_ite, tr_tt] at h0
      cases h1 : eEq b c with
      | true =>
        rw [h1, cond_true] at h
        split at h
        · rename_i ha
          cases h
          have ha := lookT_ok hk ha
          rw [ha, if_neg (by decide)] at h0
          rw [← eEq_tr h1]; exact h0
        · exact lookO_ok hk hr.tail h
      | false =>
        rw [h1, cond_false] at h
        cases h2 : eEq a c with
        | true =>
          rw [h2, cond_true] at h
          split at h
          · rename_i hb
            cases h
            have hb := lookT_ok hk hb
            rw [hb] at h0
            rw [← eEq_tr h2]
            cases ha : a.tr V with
            | true => rfl
            | false => rw [ha, if_neg (by decide)] at h0; cases h0
          · exact lookO_ok hk hr.tail h
        | false => rw [h2, cond_false] at h; exact lookO_ok hk hr.tail h
    · rename_i heq; cases heq; exact lookO_ok hk hr.tail h
/-- a number held against itself -/
def selfC : BinOp → Option Bool
  | .eql => some true
  | .leq => some true
  | .geq => some true
  | .neq => some false
  | .lss => some false
  | .gtr => some false
  | _ => none
theorem selfC_ok {op : BinOp} {b : Bool} (h : selfC op = some b) (x : Int) : cmpD op x x = b := by
  cases op <;> simp only [selfC, Option.some.injEq] at h <;> first | (cases h; done) | (subst h; simp [cmpD])
def selfF (op : BinOp) (a b : E) : Option Bool := bif eEq a b then selfC op else none
theorem selfF_ok {V : Env} {op : BinOp} {a b : E} {x : Bool} (h : selfF op a b = some x) : cmpD op (a.den V) (b.den V) = x := by
  unfold selfF at h
  cases he : eEq a b with
  | true => rw [he, cond_true] at h; rw [eEq_den he]; exact selfC_ok h _
  | false => rw [he, cond_false] at h; cases h
def lookP (op : BinOp) (a b : E) (k : Ks) : Option Bool :=
  match lookO (.cmp op a b) k k with
  | some x => some x
  | none => match turnK op with
    | some op' => match lookO (.cmp op' a b) k k with
      | some x => some (!x)
      | none => none
    | none => none
theorem lookP_ok {V : Env} {op : BinOp} {a b : E} {k : Ks} {x : Bool} (hk : KsOk V k) (h : lookP op a b k = some x) : (E.cmp op a b).tr V = x := by
  unfold lookP at h
  split at h
  · rename_i z hz; cases h; exact lookO_ok hk hk hz
  · split at h
    · rename_i op' ho
      split at h
      · rename_i z hz
        cases h
        have := lookO_ok hk hk hz
        rw [tr_cmp] at this ⊢
        rw [turnK_ok ho, this]
      · cases h
    · cases h
/-- a multiple of n -/
def multF (k : Ks) (n : Nat) : E → Bool
  | .lit (.ofNat m) => Nat.beq (m % n) 0
  | e => match lookT (.cmp .eql (.pl .rem e (.lit (.ofNat n))) (.lit (.ofNat 0))) k with
    | some true => true
    | _ => false
theorem multF_ok {V : Env} {k : Ks} (hk : KsOk V k) {n : Nat} {e : E} (h : multF k n e = true) : e.den V % (n : Int) = 0 := by
  have gen : ∀ {e : E}, (match lookT (.cmp .eql (.pl .rem e (.lit (.ofNat n))) (.lit (.ofNat 0))) k with | some true => true | _ => false) = true → e.den V % (n : Int) = 0 := fun {e} h => by
    split at h
    · rename_i hl
      have := lookT_ok hk hl
      rw [tr_cmp, den_pl, den_lit, den_lit] at this
      simpa [cmpD, plD] using this
    · cases h
  unfold multF at h
  split at h
  · rename_i m
    have := Nat.eq_of_beq_eq_true h
    rw [den_lit]
    show ((m : Int)) % (n : Int) = 0
    omega
  · exact gen h
/-- a sum of multiples is one: what is left over is nought -/
def multS (k : Ks) (op : BinOp) (a b : E) : Option Bool :=
  match a, b with
  | .pl .rem (.bin .add .u64 x y) (.lit (.ofNat n)), .lit (.ofNat 0) =>
    bif (bif Nat.beq (18446744073709551616 % n) 0 then (bif multF k n x then multF k n y else false) else false) then (match op with
      | .eql => some true
      | .neq => some false
      | _ => none) else none
  | _, _ => none
theorem multS_ok {V : Env} {k : Ks} (hk : KsOk V k) {op : BinOp} {a b : E} {r : Bool} (h : multS k op a b = some r) : (E.cmp op a b).tr V = r := by
  unfold multS at h
  split at h
  · rename_i x y n
    cases hb : (bif Nat.beq (18446744073709551616 % n) 0 then (bif multF k n x then multF k n y else false) else false) with
    | false => rw [hb, cond_false] at h; cases h
    | true =>
      rw [hb, cond_true] at h
      obtain ⟨h1, h2⟩ := and_bif hb
      obtain ⟨h2, h3⟩ := and_bif h2
      have h1 := Nat.eq_of_beq_eq_true h1
      have h2 := multF_ok hk h2
      have h3 := multF_ok hk h3
      have key : (E.pl .rem (.bin .add .u64 x y) (.lit (.ofNat n))).den V = 0 := by
        rw [den_pl, den_bin, den_lit]
        show (IntKind.u64.wrap (x.den V + y.den V)) % (n : Int) = 0
        have hw : IntKind.u64.wrap (x.den V + y.den V) = (x.den V + y.den V) % 18446744073709551616 := by
          simp only [IntKind.wrap, IntKind.signed, IntKind.bits, Bool.false_and, Bool.false_eq_true, if_false]
          rfl
        have hd : (n : Int) ∣ 18446744073709551616 := by
          have : n ∣ 18446744073709551616 := Nat.dvd_of_mod_eq_zero h1
          exact (show (n : Int) ∣ ((18446744073709551616 : Nat) : Int) from Int.natCast_dvd_natCast.2 this)
        rw [hw, Int.emod_emod_of_dvd _ hd, Int.add_emod, h2, h3]
        simp
      rw [tr_cmp, key, den_lit]
      split at h
      · cases h; rfl
      · cases h; rfl
      · cases h
  · cases h
/-- a test of two numbers -/
def lookC (k : Ks) (op : BinOp) (a b : E) : Option Bool :=
  match lookX (.cmp op a b) k with
    | some x => some x
    | none => match (match bdF a k (bdF a k a.rng), bdF b k (bdF b k b.rng) with
        | some (l, h), some (l', h') => cmpR op l h l' h'
        | _, _ => none) with
      | some x => some x
      | none => match lookT (.cmp op a b) k with
        | some x => some x
        | none => match lookP op a b k with
          | some x => some x
          | none => match multS k op a b with
            | some x => some x
            | none => selfF op a b
theorem lookC_ok {V : Env} {d : Nat → Prop} {k : Ks} (hk : KsOk V k) {op : BinOp} {x y : E} {b : Bool} (h1 : x.sc V d) (h2 : y.sc V d) (h : lookC k op x y = some b) : (E.cmp op x y).tr V = b := by
  unfold lookC at h
  split at h
  · rename_i z hz; cases h; exact lookX_ok hk hz
  · split at h
    · rename_i z hz
      cases h
      split at hz
      · rename_i l u l' u' hl hl'
        rw [tr_cmp]
        have r1 : InR (x.den V) x.rng := fun l h e => E.rng_ok V d x l h h1 e
        have r2 : InR (y.den V) y.rng := fun l h e => E.rng_ok V d y l h h2 e
        exact cmpR_ok (bdF_ok hk (bdF_ok hk r1) _ _ hl) (bdF_ok hk (bdF_ok hk r2) _ _ hl') hz
      · cases hz
    · split at h
      · rename_i z hz; cases h; exact lookT_ok hk hz
      · split at h
        · rename_i z hz; cases h; exact lookP_ok hk hz
        · split at h
          · rename_i z hz; cases h; exact multS_ok hk hz
          · rw [tr_cmp]; exact selfF_ok h
/-- the same, where the one number hangs on a test -/
def lookI (k : Ks) (op : BinOp) (a b : E) : Option Bool :=
  match lookC k op a b with
  | some x => some x
  | none => match a with
    | .ite (.cmp op' x y) u v => (match lookC k op' x y with
      | some true => lookC k op u b
      | some false => lookC k op v b
      | none => none)
    | _ => none
theorem lookI_ok {V : Env} {d : Nat → Prop} {k : Ks} (hk : KsOk V k) {op : BinOp} {x y : E} {b : Bool} (h1 : x.sc V d) (h2 : y.sc V d) (h : lookI k op x y = some b) : (E.cmp op x y).tr V = b := by
  unfold lookI at h
  split at h
  · rename_i z hz; cases h; exact lookC_ok hk h1 h2 hz
  · split at h
    · rename_i op' x' y' u v
      split at h
      · rename_i hc
        have hc := lookC_ok hk h1.1.1 h1.1.2 hc
        have := lookC_ok hk h1.2.1 h2 h
        rw [tr_cmp] at this ⊢
        rw [den_ite, hc, if_pos rfl]; exact this
      · rename_i hc
        have hc := lookC_ok hk h1.1.1 h1.1.2 hc
        have := lookC_ok hk h1.2.2 h2 h
        rw [tr_cmp] at this ⊢
        rw [den_ite, hc, if_neg (by decide)]; exact this
      · cases h
    · cases h
def isT : E → Option Bool
  | .tt b => some b
  | _ => none
theorem isT_ok {e : E} {b : Bool} (h : isT e = some b) : e = .tt b := by
  unfold isT at h
  split at h
  · cases h; rfl
  · cases h
def lookG : E → Ks → Option Bool
  | .tt b, _ => some b
  | .no a, k => match lookG a k with
    | some b => some (!b)
    | none => none
  | .ite c a b, k => match lookG c k with
    | some true => lookG a k
    | some false => lookG b k
    | none => match lookX (.ite c a b) k with
      | some x => some x
      | none => match isT a with
        | some true => (match lookG b ((c, false) :: k) with
          | some true => some true
          | _ => none)
        | _ => none
  | .cmp op a b, k => lookI k op a b
  | c, k => lookX c k
theorem lookG_ok {V : Env} {d : Nat → Prop} : ∀ {c : E} {k : Ks} {b : Bool}, KsOk V k → c.sc V d → lookG c k = some b → c.tr V = b
  | .tt x, k, b, hk, hs, h => by cases h; rfl
  | .no a, k, b, hk, hs, h => by
    unfold lookG at h
    split at h
    · rename_i x hx; cases h; rw [tr_no, lookG_ok hk (show a.sc V d from hs) hx]
    · cases h
  | .ite c x y, k, b, hk, hs, h => by
    unfold lookG at h
    split at h
    · rename_i hc; rw [tr_ite, lookG_ok hk hs.1 hc, if_pos rfl]; exact lookG_ok hk hs.2.1 h
    · rename_i hc; rw [tr_ite, lookG_ok hk hs.1 hc, if_neg (by decide)]; exact lookG_ok hk hs.2.2 h
    · split at h
      · rename_i z hz; cases h; exact lookX_ok hk hz
      · split at h
        · rename_i hx
          have hx := isT_ok hx
          subst hx
          split at h
          · rename_i hy
            cases h
            rw [tr_ite, tr_tt]
            cases hc : c.tr V with
            | true => rfl
            | false =>
              rw [if_neg (by decide)]
              exact lookG_ok (k := (c, false) :: k) (fun q hq => by
                rcases List.mem_cons.1 hq with rfl | hq
                · exact hc
                · exact hk q hq) hs.2.2 hy
          · cases h
        · cases h
  | .cmp op x y, k, b, hk, hs, h => lookI_ok hk hs.1 hs.2 h
  | .lit n, k, b, hk, hs, h => lookX_ok hk h
  | .var l u i, k, b, hk, hs, h => lookX_ok hk h
  | .bin op kk x y, k, b, hk, hs, h => lookX_ok hk h
  | .pl op x y, k, b, hk, hs, h => lookX_ok hk h
  | .cast kk x, k, b, hk, hs, h => lookX_ok hk h
  | .bvar i, k, b, hk, hs, h => lookX_ok hk h
  | .ix n s a, k, b, hk, hs, h => lookX_ok hk h
/-- is it 0 or 1? -/
def bit1 (x : E) : Bool :=
  match x.rng with
  | some (l, h) => decide (0 ≤ l) && decide (h ≤ 1)
  | none => false
def lookN (k : Ks) (x : E) (n : Nat) : Option Bool :=
  match lookG (.cmp .eql x (.lit (.ofNat n))) k with
  | some b => some b
  | none => bif bit1 x && Nat.ble n 1 then (match lookG (.cmp .eql x (.lit (.ofNat (1 - n)))) k with
    | some b => some (!b)
    | none => none) else none
theorem lookN_ok {V : Env} {d : Nat → Prop} {k : Ks} (hk : KsOk V k) {x : E} {n : Nat} {b : Bool} (hs : x.sc V d) (h : lookN k x n = some b) : (x.den V == (n : Int)) = b := by
  unfold lookN at h
  split at h
  · rename_i b' hb
    cases h
    have := lookG_ok (V := V) (d := d) (c := .cmp .eql x (.lit (.ofNat n))) hk ⟨hs, trivial⟩ hb
    rw [tr_cmp, den_lit] at this
    exact this
  · cases hc : (bit1 x && Nat.ble n 1) with
    | false => rw [hc, cond_false] at h; cases h
    | true =>
      rw [hc, cond_true] at h
      simp only [Bool.and_eq_true] at hc
      have hn : n ≤ 1 := Nat.le_of_ble_eq_true hc.2
      have hb := hc.1
      unfold bit1 at hb
      split at hb
      · rename_i l u hr
        have := E.rng_ok V d x _ _ hs hr
        simp only [Bool.and_eq_true, decide_eq_true_eq] at hb
        split at h
        · rename_i b' hb'
          cases h
          have h2 := lookG_ok (V := V) (d := d) (c := .cmp .eql x (.lit (.ofNat (1 - n)))) hk ⟨hs, trivial⟩ hb'
          rw [tr_cmp, den_lit] at h2
          have h3 : (x.den V == ((1 - n : Nat) : Int)) = b' := h2
          rw [← h3]
          have : x.den V = 0 ∨ x.den V = 1 := by omega
          have : n = 0 ∨ n = 1 := by omega
          rcases this with rfl | rfl <;> rcases ‹x.den V = 0 ∨ x.den V = 1› with e | e <;> rw [e] <;> decide
        · cases h
      · cases hb
def lookQ (k : Ks) (a b : E) : Option Bool :=
  match a, b with
  | .pl .mul x (.lit (.ofNat m)), .lit (.ofNat n) => bif Nat.beq m 0 then none else bif Nat.beq (n % m) 0 then lookN k x (n / m) else some false
  | x, .lit (.ofNat n) => lookN k x n
  | _, _ => none
theorem lookQ_ok {V : Env} {d : Nat → Prop} {k : Ks} (hk : KsOk V k) {a b : E} {r : Bool} (ha : a.sc V d) (h : lookQ k a b = some r) : (a.den V == b.den V) = r := by
  unfold lookQ at h
  split at h
  · rename_i x m n
    cases hm : Nat.beq m 0 with
    | true => rw [hm, cond_true] at h; cases h
    | false =>
      rw [hm, cond_false] at h
      have hm0 : 0 < m := by
        rcases Nat.eq_zero_or_pos m with e | e
        · rw [e] at hm; cases hm
        · exact e
      have hd : (E.pl .mul x (.lit (.ofNat m))).den V = x.den V * (m : Int) := rfl
      rw [hd, den_lit]
      show (x.den V * (m : Int) == (n : Int)) = r
      cases hz : Nat.beq (n % m) 0 with
      | true =>
        rw [hz, cond_true] at h
        have hz : n % m = 0 := Nat.eq_of_beq_eq_true hz
        have := lookN_ok hk ha.1 h
        rw [← this]
        have hn : n = n / m * m := by have := Nat.div_add_mod n m; rw [hz] at this; rw [Nat.mul_comm]; omega
        rw [Bool.eq_iff_iff, beq_iff_eq, beq_iff_eq]
        constructor
        · intro e
          have e2 : x.den V * (m : Int) = ((n / m : Nat) : Int) * (m : Int) := by rw [e]; exact_mod_cast hn
          exact Int.eq_of_mul_eq_mul_right (by omega) e2
        · intro e
          rw [e]
          exact_mod_cast hn.symm
      | false =>
        rw [hz, cond_false] at h
        cases h
        rw [beq_eq_false_iff_ne]
        intro e
        have hx : (n : Int) % (m : Int) = 0 := by rw [← e]; exact Int.mul_emod_left _ _
        have hx2 : n % m = 0 := by
          have : ((n % m : Nat) : Int) = 0 := by rw [Int.natCast_emod]; exact hx
          exact_mod_cast this
        rw [hx2] at hz; cases hz
  · exact lookN_ok hk ha h
  · cases h
def lookB (k : Ks) (c : E) : Option Bool :=
  match c with
  | .cmp .eql a b => lookQ k a b
  | .cmp .neq a b => match lookQ k a b with
    | some r => some (!r)
    | none => none
  | _ => none
theorem lookB_ok {V : Env} {d : Nat → Prop} {k : Ks} (hk : KsOk V k) {c : E} {b : Bool} (hs : c.sc V d) (h : lookB k c = some b) : c.tr V = b := by
  unfold lookB at h
  split at h
  · exact lookQ_ok hk hs.1 h
  · split at h
    · rename_i r hr
      cases h
      rw [← lookQ_ok hk hs.1 hr]
      rfl
    · cases h
  · cases h
def lookF (k : Ks) (c : E) : Option Bool :=
  match lookG c k with
  | some b => some b
  | none => lookB k c
theorem lookF_ok {V : Env} {d : Nat → Prop} {k : Ks} (hk : KsOk V k) {c : E} {b : Bool} (hs : c.sc V d) (h : lookF k c = some b) : c.tr V = b := by
  unfold lookF at h
  split at h
  · rename_i b' hb; cases h; exact lookG_ok hk hs hb
  · exact lookB_ok hk hs h
/-- a variable that is known to be one number -/
def solve (i : Nat) : Ks → Option Int
  | [] => none
  | (.cmp op (.var _ _ j) (.lit n), b) :: r => bif (bif Nat.beq i j then (bif b then Nat.beq (opN op) 11 else Nat.beq (opN op) 12) else false) then some n else solve i r
  | _ :: r => solve i r
theorem solve_ok {V : Env} {i : Nat} : ∀ {k : Ks} {n : Int}, KsOk V k → solve i k = some n → V.i i = n
  | [], n, _, h => nomatch h
  | q :: r, n, hk, h => by
    unfold solve at h
    split at h
    · rename_i heq; cases heq
    · rename_i op l u j m b r' heq
      cases heq
      cases hb : (bif Nat.beq i j then (bif b then Nat.beq (opN op) 11 else Nat.beq (opN op) 12) else false) with
      | false => rw [hb, cond_false] at h; exact solve_ok hk.tail h
      | true =>
        rw [hb, cond_true] at h
        cases h
        obtain ⟨h1, h2⟩ := and_bif hb
        have h1 : i = j := Nat.eq_of_beq_eq_true h1
        subst h1
        have h3 := hk _ List.mem_cons_self
        simp only [tr_cmp, den_var, den_lit] at h3
        cases b with
        | true =>
          have ho : op = .eql := opN_inj (b := .eql) h2
          subst ho
          simpa [cmpD] using h3
        | false =>
          have ho : op = .neq := opN_inj (b := .neq) h2
          subst ho
          simpa [cmpD] using h3
    · rename_i heq; cases heq; exact solve_ok hk.tail h
def normV (ks : Ks) (v : SV) : SV :=
  match v with
  | .pv (.one (.int k (.var lo hi i))) => match solve i ks with
    | some n => .pv (.one (.int k (.lit n)))
    | none => .pv (.one (.int k (.var lo hi i)))
  | v => v
theorem normV_ok {C : Ctx} {ks : Ks} (hk : KsOk C.V ks) {v : SV} {u : Value} (h : v.rel C u) : (normV ks v).rel C u := by
  unfold normV
  split
  · split
    · rename_i n hn
      refine ⟨trivial, ?_⟩
      rw [h.2, den_var, solve_ok hk hn]; rfl
    · exact h
  · exact h
/-- by itself, or by what is known -/
def knownF (k : Ks) (e : E) : Option Bool :=
  match e.known with
  | some b => some b
  | none => lookF k e
theorem knownF_ok {V : Env} {d : Nat → Prop} {k : Ks} (hk : KsOk V k) {c : E} {b : Bool} (hs : c.sc V d) (h : knownF k c = some b) : c.tr V = b := by
  unfold knownF at h
  split at h
  · rename_i x hx; cases h; exact E.known_ok hs hx
  · exact lookF_ok hk hs h
/-- it is not 0 -/
def nzF (ks : Ks) (b : E) : Bool :=
  match b with
  | .cast k x => (match k, x.rng with
    | .i64, some (l, h) => bif decide (0 ≤ l) then (bif decide (h ≤ 18446744073709551615) then (match knownF ks (mkCmp .eql x (.lit 0)) with | some false => true | _ => false) else false) else false
    | _, _ => false)
  | b => match knownF ks (mkCmp .eql b (.lit 0)) with | some false => true | _ => false
theorem nzF_ok {V : Env} {d : Nat → Prop} {ks : Ks} (hk : KsOk V ks) {b : E} (hs : b.sc V d) (h : nzF ks b = true) : b.den V ≠ 0 := by
  have key : ∀ {x : E}, x.sc V d → knownF ks (mkCmp .eql x (.lit 0)) = some false → x.den V ≠ 0 := fun {x} hx hh => by
    have k1 := mkCmp_ok .eql (b := .lit 0) hx trivial
    have k2 := knownF_ok hk k1.1 hh
    rw [k1.2, den_lit] at k2
    simpa [cmpD] using k2
  unfold nzF at h
  split at h
  · rename_i k x
    split at h
    · rename_i l u hr
      obtain ⟨h1, h⟩ := and_bif h
      obtain ⟨h2, h⟩ := and_bif h
      have h1 := of_decide_eq_true h1
      have h2 := of_decide_eq_true h2
      split at h
      · rename_i hf
        have := key (x := x) hs hf
        have hr := E.rng_ok V d x _ _ hs hr
        rw [den_cast]
        have e1 := IntKind.wrap_i64 (x.den V)
        rw [e1]
        omega
      · cases h
    · cases h
  · split at h
    · rename_i hf; exact key hs hf
    · cases h
/-- bounds, by what is known -/
def rngF (ks : Ks) : E → Option (Int × Int)
  | .pl op a (.lit c) => match op, rngF ks a with
    | .sub, some (l, h) => some (l - c, h - c)
    | .add, some (l, h) => some (l + c, h + c)
    | op, _ => bdF (.pl op a (.lit c)) ks (E.pl op a (.lit c)).rng
  | .bin op k (.lit n) b => match op, rngF ks b with
    | .shl, some (l, h) => if 0 ≤ n ∧ 0 ≤ l ∧ h ≤ 63 ∧ n * 2 ^ h.toNat ≤ kHi k then some (n, n * 2 ^ h.toNat) else bdF (.bin .shl k (.lit n) b) ks (E.bin .shl k (.lit n) b).rng
    | op, _ => bdF (.bin op k (.lit n) b) ks (E.bin op k (.lit n) b).rng
  | e => bdF e ks e.rng
theorem rngF_ok {V : Env} {d : Nat → Prop} {ks : Ks} (hk : KsOk V ks) {e : E} (hs : e.sc V d) : InR (e.den V) (rngF ks e) := by
  have gen : ∀ {x : E}, x.sc V d → InR (x.den V) (bdF x ks x.rng) := fun {x} hx => bdF_ok hk fun l h q => E.rng_ok V d x l h hx q
  induction e with
  | pl op a b ia ib =>
    cases b with
    | lit c =>
      have ia := ia hs.1
      unfold rngF
      split
      · rename_i l h hr
        intro l' h' e
        cases e
        have := ia l h hr
        rw [den_pl, den_lit]
        simp only [plD]
        omega
      · rename_i l h hr
        intro l' h' e
        cases e
        have := ia l h hr
        rw [den_pl, den_lit]
        simp only [plD]
        omega
      · exact gen hs
    | _ => exact gen hs
  | bin op k a b ia ib =>
    cases a with
    | lit n =>
      have ib := ib hs.2
      unfold rngF
      split
      · rename_i l h hr
        have := ib l h hr
        split
        · rename_i hc
          intro l' h' e
          cases e
          rw [den_bin, den_lit]
          exact shl_rng hc.1 hc.2.1 hc.2.2.2 this.1 this.2
        · exact gen hs
      · exact gen hs
    | _ => exact gen hs
  | _ => exact gen hs
/-- a test that turned out so -/
def addF : E → Bool → Ks → Ks
  | .no a, b, k => addF a (!b) k
  | .tt _, _, k => k
  | .ite c x y, b, k =>
    match isT y, isT x, b with
    | some false, _, true => addF c true (addF x true k)
    | _, some true, false => addF c false (addF y false k)
    | _, some false, true => addF c false (addF y true k)
    | _, _, b => (.ite c x y, b) :: k
  | c, b, k => (c, b) :: k
def KsSc (V : Env) (d : Nat → Prop) (k : Ks) : Prop := ∀ q ∈ k, q.1.sc V d ∧ q.1.tr V = q.2
theorem KsSc.cons {V : Env} {d : Nat → Prop} {k : Ks} {c : E} {b : Bool} (hs : c.sc V d) (hc : c.tr V = b) (hk : KsSc V d k) : KsSc V d ((c, b) :: k) := fun q hq => by
  rcases List.mem_cons.1 hq with rfl | hq
  · exact ⟨hs, hc⟩
  · exact hk q hq
theorem addF_ok {V : Env} {d : Nat → Prop} : ∀ (c : E) (b : Bool) (k : Ks), c.sc V d → c.tr V = b → KsSc V d k → KsSc V d (addF c b k) := by
  intro c
  induction c with
  | no a ih => intro b k hs hc hk; exact ih (!b) k hs (by rw [tr_no] at hc; rw [← hc]; simp) hk
  | tt t => intro b k hs hc hk; exact hk
  | ite c x y ic ix iy =>
    intro b k hs hc hk
    rw [tr_ite] at hc
    unfold addF
    split
    · have h1 := isT_ok (show isT y = some false by assumption)
      subst h1
      cases h1 : c.tr V with
      | true => rw [h1, if_pos rfl] at hc; exact ic _ _ hs.1 h1 (ix _ _ hs.2.1 hc hk)
      | false => rw [h1, if_neg (by decide), tr_tt] at hc; cases hc
    · have h1 := isT_ok (show isT x = some true by assumption)
      subst h1
      cases h1 : c.tr V with
      | true => rw [h1, if_pos rfl, tr_tt] at hc; cases hc
      | false => rw [h1, if_neg (by decide)] at hc; exact ic _ _ hs.1 h1 (iy _ _ hs.2.2 hc hk)
    · have h1 := isT_ok (show isT x = some false by assumption)
      subst h1
      cases h1 : c.tr V with
      | true => rw [h1, if_pos rfl, tr_tt] at hc; cases hc
      | false => rw [h1, if_neg (by decide)] at hc; exact ic _ _ hs.1 h1 (iy _ _ hs.2.2 hc hk)
    · exact KsSc.cons hs (by rw [tr_ite]; exact hc) hk
  | lit n => intro b k hs hc hk; exact KsSc.cons hs hc hk
  | var l h i => intro b k hs hc hk; exact KsSc.cons hs hc hk
  | bin op kk x y _ _ => intro b k hs hc hk; exact KsSc.cons hs hc hk
  | pl op x y _ _ => intro b k hs hc hk; exact KsSc.cons hs hc hk
  | cast kk x _ => intro b k hs hc hk; exact KsSc.cons hs hc hk
  | bvar i => intro b k hs hc hk; exact KsSc.cons hs hc hk
  | ix n s a _ => intro b k hs hc hk; exact KsSc.cons hs hc hk
  | cmp op x y _ _ => intro b k hs hc hk; exact KsSc.cons hs hc hk
/-- what is known, laid out at once -/
def Hp.fact (hp : Hp) (c : E) (b : Bool) : Hp := { hp with gh := ⟨addF c b hp.gh.k, hp.gh.d, hp.gh.m⟩ }
theorem HRel.ks {C : Ctx} {hp : Hp} {w : World} (h : HRel C hp w) : KsOk C.V hp.gh.k := fun q hq => (h.ext.facts q hq).2
theorem HRel.fact {C : Ctx} {hp : Hp} {w : World} (h : HRel C hp w) {c : E} {b : Bool} (hs : c.sc C.V C.vd) (hc : c.tr C.V = b) : HRel C (hp.fact c b) w :=
  ⟨h.toHCore, ⟨h.ext.rel, h.ext.msc, addF_ok c b _ hs hc h.ext.facts, h.ext.defs⟩, h.apart, h.own, h.free, h.blt⟩
/-- the same, laid out at once -/
def ksK {β : Type} (k : Ks) (f : Ks → β) : β :=
  List.rec (motive := fun _ => (Ks → β) → β) (fun f => f []) (fun q _ ih f => Prod.rec (motive := fun _ => β) (fun c b => Bool.rec (motive := fun _ => β) (ih fun r => f ((c, false) :: r)) (ih fun r => f ((c, true) :: r)) b) q) k f
theorem ksK_eq {β : Type} : ∀ (k : Ks) (f : Ks → β), ksK k f = f k
  | [], f => rfl
  | (c, b) :: r, f => by
    show (Bool.rec (motive := fun _ => β) (ksK r fun r => f ((c, false) :: r)) (ksK r fun r => f ((c, true) :: r)) b : β) = _
    cases b <;> exact ksK_eq r _
def Hp.factK {β : Type} (hp : Hp) (c : E) (b : Bool) (f : Hp → β) : β :=
  Hp.rec (motive := fun _ => β) (fun H nx lim rest gh => Gh.rec (motive := fun _ => β) (fun k d m => ksK (addF c b k) fun k => f ⟨H, nx, lim, rest, ⟨k, d, m⟩⟩) gh) hp
theorem Hp.factK_eq {β : Type} (hp : Hp) (c : E) (b : Bool) (f : Hp → β) : hp.factK c b f = f (hp.fact c b) := by
  obtain ⟨H, nx, lim, rest, k, d, m⟩ := hp
  exact ksK_eq (addF c b k) fun k => f ⟨H, nx, lim, rest, ⟨k, d, m⟩⟩
def xif {α : Type} (c : E) (hp : Hp) (t e : Hp → T α) : T α :=
  match c.known with
  | some true => t hp
  | some false => e hp
  | none => match lookF hp.gh.k c with
    | some true => t hp
    | some false => e hp
    | none => .ite c (hp.factK c true t) (hp.factK c false e)
theorem xif_holds {α : Type} {Φ : Env → α → Prop} {C : Ctx} {hp : Hp} {w : World} {c : E} {t e : Hp → T α} (h : HRel C hp w) (hs : c.sc C.V C.vd) (hx : (xif c hp t e).holds Φ C.V) :
    ∃ hp', HRel C hp' w ∧ hp'.H = hp.H ∧ hp'.nx = hp.nx ∧ hp'.lim = hp.lim ∧ hp'.rest = hp.rest ∧ hp'.gh.d = hp.gh.d ∧ hp'.gh.m = hp.gh.m ∧ (c.tr C.V = true → (t hp').holds Φ C.V) ∧ (c.tr C.V = false → (e hp').holds Φ C.V) := by
  unfold xif at hx
  split at hx
  · rename_i hk
    have := E.known_ok hs hk
    exact ⟨hp, h, rfl, rfl, rfl, rfl, rfl, rfl, fun _ => hx, fun e => by rw [this] at e; cases e⟩
  · rename_i hk
    have := E.known_ok hs hk
    exact ⟨hp, h, rfl, rfl, rfl, rfl, rfl, rfl, (fun e => by rw [this] at e; cases e), fun _ => hx⟩
  · split at hx
    · rename_i hk
      have := lookF_ok (fun q hq => (h.ext.facts q hq).2) hs hk
      exact ⟨hp, h, rfl, rfl, rfl, rfl, rfl, rfl, fun _ => hx, fun e => by rw [this] at e; cases e⟩
    · rename_i hk
      have := lookF_ok (fun q hq => (h.ext.facts q hq).2) hs hk
      exact ⟨hp, h, rfl, rfl, rfl, rfl, rfl, rfl, (fun e => by rw [this] at e; cases e), fun _ => hx⟩
    · cases hc : c.tr C.V with
      | true => exact ⟨_, h.fact hs hc, rfl, rfl, rfl, rfl, rfl, rfl, fun _ => by have := hx.1 hc; rwa [Hp.factK_eq] at this, fun e => by cases e⟩
      | false => exact ⟨_, h.fact hs hc, rfl, rfl, rfl, rfl, rfl, rfl, (fun e => by cases e), fun _ => by have := hx.2 hc; rwa [Hp.factK_eq] at this⟩
end
end Go.Proofs.YtkogjjeoihnjpaaGreat.Sx
end
section
set_option linter.unusedVariables false
set_option linter.unusedSimpArgs false
namespace Go.Proofs.YtkogjjeoihnjpaaGreat.Sx
open Go
noncomputable section
section
variable {P : Program} {C : Ctx} {hp : Hp} {w : World}
/-- what an operation that looks at no memory gives -/
def OutP (P : Program) (C : Ctx) (s : Sem Value) (o : Option SV) : Prop := ∀ sv, o = some sv → ∃ v, sv.rel C v ∧ ∀ w : World, s.run P w = .ok v w
theorem OutP.none {s : Sem Value} : OutP P C s none := fun _ h => nomatch h
theorem OutP.mk {s : Sem Value} {sv : SV} {v : Value} (hs : ∀ w : World, s.run P w = .ok v w) (hr : sv.rel C v) : OutP P C s (some sv) := fun _ h => by cases h; exact ⟨v, hr, hs⟩
theorem OutP.int {s : Sem Value} {k : IntKind} {e : E} {n : Int} (hs : ∀ w : World, s.run P w = .ok (.int k n) w) (he : e.sc C.V C.vd ∧ e.den C.V = n) : OutP P C s (some (.sc (.int k e))) :=
  OutP.mk hs (by rw [← he.2]; exact rel_int he.1)
theorem OutP.bool {s : Sem Value} {e : E} {b : Bool} (hs : ∀ w : World, s.run P w = .ok (.bool b) w) (he : e.sc C.V C.vd ∧ e.tr C.V = b) : OutP P C s (some (.sc (.bool e))) :=
  OutP.mk hs (by rw [← he.2]; exact rel_bool he.1)
def ofP (o : Option SV) (hp : Hp) (why : String) : XR :=
  match o with
  | some v => .ret (v, hp)
  | Option.none => .bad why
theorem Out.ofP (h : HRel C hp w) {s : Sem Value} {o : Option SV} (ho : OutP P C s o) (why : String) : Out P C w s (ofP o hp why) := by
  cases o with
  | none => exact Out.bad
  | some sv =>
    obtain ⟨v, k1, k2⟩ := ho sv rfl
    exact Out.pure h (k2 w) k1
def xun (op : UnOp) (x : SV) : Option SV :=
  match op, x with
  | .neg, .pv (.one (.int k a)) => some (.sc (.int k (mkBin .sub k (.lit 0) a)))
  | .xor, .pv (.one (.int k a)) => some (.sc (.int k (mkBin .xor k (.lit (if k.signed then -1 else k.max)) a)))
  | .not, .pv (.one (.bool a)) => some (.sc (.bool (mkNo a)))
  | _, _ => none
theorem xun_ok (op : UnOp) {x : SV} {v : Value} (hx : x.rel C v) : OutP P C (Op.unary op v) (xun op x) := by
  unfold xun
  split
  · obtain ⟨h1, rfl⟩ := hx
    exact OutP.int (fun _ => rfl) (mkBin_ok .sub _ (a := .lit 0) trivial h1)
  · rename_i k a
    obtain ⟨h1, rfl⟩ := hx
    refine OutP.int (fun w => ?_) (mkBin_ok .xor k (a := .lit (if k.signed then -1 else k.max)) trivial h1)
    rfl
  · obtain ⟨h1, rfl⟩ := hx
    exact OutP.bool (fun _ => rfl) (mkNo_ok h1)
  · exact OutP.none
def xconv (P : Program) (src dst : TypeId) (x : SV) : Option SV :=
  match x, P.underlying src, P.underlying dst with
  | .pv (.one (.int _ a)), some _, some (.int k) => some (.sc (.int k (mkCast k a)))
  | .pv (.one (.str s)), some _, some .string => some (.sc (.str s))
  | _, _, _ => none
theorem xconv_ok (src dst : TypeId) {x : SV} {v : Value} (hx : x.rel C v) : OutP P C (convert src dst v) (xconv P src dst x) := by
  unfold xconv
  split
  · rename_i k0 a d k hs hd
    obtain ⟨h1, rfl⟩ := hx
    refine OutP.int (fun w => ?_) (mkCast_ok k h1)
    simp [convert, run_underlying hs, run_underlying hd, Conv.intToInt]
  · rename_i s d hs hd
    have hv : v = .string s := hx
    subst hv
    refine OutP.mk (v := .string s) (fun w => ?_) rfl
    simp [convert, run_underlying hs, run_underlying hd]
  · exact OutP.none
def xiface (P : Program) (t : TypeId) (x : SV) : Option SV :=
  match x, P.underlying t with
  | _, some (.interface _) => none
  | .pv (.one c), some _ => some (.sc (.iface t c))
  | _, _ => none
theorem xiface_ok (t : TypeId) {x : SV} {v : Value} (hx : x.rel C v) : OutP P C (Instr.makeInterface t v) (xiface P t x) := by
  unfold xiface
  split
  · exact OutP.none
  · rename_i c d hn hd
    refine OutP.mk (v := .iface t v) (fun w => ?_) ⟨v, hx, rfl⟩
    simp only [Instr.makeInterface, Sem.run_bind, run_underlying hd, Result.andThen_ok]
    cases d <;> first | rfl | exact absurd hd (hn _)
  · exact OutP.none
def asPtrs : List SV → Option (List (Nat × Nat))
  | [] => some []
  | .pv (.one (.ptr b o)) :: r => match asPtrs r with | some l => some ((b, o) :: l) | none => none
  | _ => none
theorem asPtrs_ok : ∀ {xs : List SV} {ps : List (Nat × Nat)} {vs : List Value}, asPtrs xs = some ps → All2 (SV.rel C) xs vs → All2 (ptrRel C) ps vs
  | [], ps, vs, h, hv => by cases hv; cases h; exact .nil
  | x :: xs, ps, vs, h, hv => by
    cases hv with
    | cons h1 h2 =>
      unfold asPtrs at h
      split at h
      · rename_i e; cases e
      · rename_i b o r e
        cases e
        split at h
        · rename_i l hl
          cases h
          exact .cons h1 (asPtrs_ok hl h2)
        · cases h
      · cases h
def xfunc (f : Fn) (xs cs : List SV) : Option SV :=
  match f, xs, cs with
  | .method name, [.pv (.one (.iface t (.ptr b o)))], [] => some (.sc (.mth name t b o))
  | f, xs, cs => match asPtrs xs, asPtrs cs with
    | some a, some b => some (.sc (.fn f a b))
    | _, _ => none
theorem xfunc_ok (f : Fn) {xs cs : List SV} {us vs : List Value} (hx : All2 (SV.rel C) xs us) (hc : All2 (SV.rel C) cs vs) : OutP P C (Instr.makeFunc f us.toArray vs.toArray) (xfunc f xs cs) := by
  unfold xfunc
  split
  · rename_i name t b o
    cases hc
    cases hx with
    | cons h1 h2 =>
      cases h2
      obtain ⟨u, ⟨g, c, hg, rfl⟩, rfl⟩ := h1
      exact OutP.mk (v := .func (.method name) #[.iface t (.pointer (some ⟨g, o, none⟩))] #[]) (fun _ => rfl) ⟨g, c, hg, rfl⟩
  split
  · rename_i a b ha hb
    exact OutP.mk (v := .func f us.toArray vs.toArray) (fun _ => rfl) ⟨us, vs, asPtrs_ok ha hx, asPtrs_ok hb hc, rfl⟩
  · exact OutP.none
def xfield (P : Program) (t : TypeId) (x : SV) (f : Nat) : Option SV :=
  match x, P.underlying t with
  | .pv (.agg cs), some (.struct fs) => match fs[f]? with
    | some fd => match xread P fd.type cs fd.offset with
      | some p => some (.pv p)
      | none => none
    | none => none
  | _, _ => none
theorem xfield_ok (t : TypeId) {x : SV} {v : Value} (f : Nat) (hx : x.rel C v) : OutP P C (Instr.field t v f) (xfield P t x f) := by
  unfold xfield
  split
  · rename_i cs fs ht
    obtain ⟨vs, hv, rfl⟩ := hx
    split
    · rename_i fd hf
      split
      · rename_i p hp1
        obtain ⟨u, h1, h2⟩ := xpart_ok hp1 hv
        refine OutP.mk (v := u) (fun w => ?_) h2
        simp [Instr.field, run_underlying ht, hf, asAgg, h1]
      · exact OutP.none
    · exact OutP.none
  · exact OutP.none
def xfieldAddr (P : Program) (t : TypeId) (x : SV) (f : Nat) : Option SV :=
  match x, P.underlying t with
  | .pv (.one (.ptr b o)), some (.struct fs) => match fs[f]? with
    | some fd => match xsize P fd.type with
      | some (_ + 1) => some (.sc (.ptr b (o + fd.offset)))
      | _ => none
    | none => none
  | _, _ => none
theorem xfieldAddr_ok (t : TypeId) {x : SV} {v : Value} (f : Nat) (hx : x.rel C v) : OutP P C (Instr.fieldAt t v f) (xfieldAddr P t x f) := by
  unfold xfieldAddr
  split
  · rename_i b o fs ht
    obtain ⟨g, c, hg, rfl⟩ := hx
    split
    · rename_i fd hf
      split
      · rename_i n hs
        refine OutP.mk (v := .pointer (some ⟨g, o + fd.offset, none⟩)) (fun w => ?_) ⟨g, c, hg, rfl⟩
        simp [Instr.fieldAt, run_underlying ht, hf, Instr.sureAddr, fieldPlace, xsize_ok hs, Addr.add_lit]
      · exact OutP.none
    · exact OutP.none
  · exact OutP.none
def litOf : SV → Option Int
  | .pv (.one (.int _ (.lit n))) => some n
  | _ => none
theorem litOf_ok {x : SV} {n : Int} (h : litOf x = some n) {v : Value} (hx : x.rel C v) : ∃ k, v = .int k n := by
  unfold litOf at h
  split at h
  · cases h; exact ⟨_, hx.2⟩
  · cases h
/-- a place in an array that is a term -/
def xindexAddrX (P : Program) (ks : Ks) (t : TypeId) (x ix : SV) : Option SV :=
  match x, ix, P.underlying t with
  | .pv (.one (.ptr b o)), .pv (.one (.int _ e)), some (.array len el) =>
    match xsize P el, rngF ks e with
    | some 1, some (l, h) => if 0 ≤ l ∧ h < len then some (.sc (.px b o len e)) else none
    | _, _ => none
  | _, _, _ => none
theorem xindexAddrX_ok {ks : Ks} (hks : KsOk C.V ks) (t : TypeId) {x ix : SV} {v i : Value} (hx : x.rel C v) (hi : ix.rel C i) : OutP P C (Instr.indexAt t v i) (xindexAddrX P ks t x ix) := by
  unfold xindexAddrX
  split
  · rename_i b o k e len el ht
    obtain ⟨g, c, hg, rfl⟩ := hx
    obtain ⟨he, rfl⟩ := hi
    split
    · rename_i l h hs hr
      split
      · rename_i hb
        have := rngF_ok hks he l h hr
        have h0 : 0 ≤ e.den C.V := by omega
        have h1 : e.den C.V < len := by omega
        refine OutP.mk (v := .pointer (some ⟨g, o + (e.den C.V).toNat, none⟩)) (fun w => ?_) ⟨he, h0, h1, g, c, hg, rfl⟩
        simp [Instr.indexAt, asIntOf, run_underlying ht, Instr.sureAddr, h0, h1, xsize_ok hs, Addr.add_lit]
      · exact OutP.none
    · exact OutP.none
  · exact OutP.none
def xindexAddr (P : Program) (ks : Ks) (t : TypeId) (x ix : SV) : Option SV :=
  match litOf ix with
  | none => xindexAddrX P ks t x ix
  | some i =>
    match x, P.underlying t with
    | .pv (.one (.ptr b o)), some (.array len e) =>
      match xsize P e with
      | some s => if 0 ≤ i ∧ i < len then some (.sc (.ptr b (o + i.toNat * s))) else none
      | none => none
    | .pv (.one (.slice b o len _ _)), some (.slice e) =>
      match xsize P e with
      | some s => if 0 ≤ i ∧ i < len then some (.sc (.ptr b (o + i.toNat * s))) else none
      | none => none
    | _, _ => none
theorem xindexAddr_ok {ks : Ks} (hks : KsOk C.V ks) (t : TypeId) {x ix : SV} {v i : Value} (hx : x.rel C v) (hi : ix.rel C i) : OutP P C (Instr.indexAt t v i) (xindexAddr P ks t x ix) := by
  unfold xindexAddr
  split
  · exact xindexAddrX_ok hks t hx hi
  · rename_i n hn
    obtain ⟨k, rfl⟩ := litOf_ok hn hi
    split
    · rename_i b o len e ht
      obtain ⟨g, c, hg, rfl⟩ := hx
      split
      · rename_i s hs
        split
        · rename_i hb
          refine OutP.mk (v := .pointer (some ⟨g, o + n.toNat * s, none⟩)) (fun w => ?_) ⟨g, c, hg, rfl⟩
          simp [Instr.indexAt, asIntOf, run_underlying ht, Instr.sureAddr, hb, xsize_ok hs, Addr.add_lit]
        · exact OutP.none
      · exact OutP.none
    · rename_i b o len cap el e ht
      obtain ⟨g, c, hg, hv, hcap⟩ := hx
      clear hcap
      generalize (if el = true then c - cap else cap) = q at hv
      subst hv
      split
      · rename_i s hs
        split
        · rename_i hb
          refine OutP.mk (v := .pointer (some ⟨g, o + n.toNat * s, none⟩)) (fun w => ?_) ⟨g, c, hg, rfl⟩
          simp [Instr.indexAt, asIntOf, run_underlying ht, Instr.sureAddr, hb, xsize_ok hs, Addr.add_lit]
        · exact OutP.none
      · exact OutP.none
    · exact OutP.none
/-- a cell of an array at a place that is a term -/
def xindexX (P : Program) (ks : Ks) (t : TypeId) (x ix : SV) : Option SV :=
  match x, ix, P.underlying t with
  | .pv (.agg cs), .pv (.one (.int _ e)), some (.array len el) =>
    match xsize P el, xagg P el, rngF ks e with
    | some 1, some false, some (l, h) => if 0 ≤ l ∧ h < len then (selRow len e cs).map SV.sc else none
    | _, _, _ => none
  | _, _, _ => none
theorem xindexX_ok {ks : Ks} (hks : KsOk C.V ks) (t : TypeId) {x ix : SV} {v i : Value} (hx : x.rel C v) (hi : ix.rel C i) : OutP P C (Instr.index t v i) (xindexX P ks t x ix) := by
  unfold xindexX
  split
  · rename_i cs k e len el ht
    obtain ⟨vs, hv, rfl⟩ := hx
    obtain ⟨he, rfl⟩ := hi
    split
    · rename_i l h hs ha hr
      split
      · rename_i hb
        have := rngF_ok hks he l h hr
        have h0 : 0 ≤ e.den C.V := by omega
        have h1 : e.den C.V < len := by omega
        intro sv hsv
        obtain ⟨c, hc, rfl⟩ := Option.map_eq_some_iff.1 hsv
        obtain ⟨u, k1, k2⟩ := selRow_ok hc hv he h0 h1 (fun v x r kk cnd e => by
          rw [e] at hv
          obtain ⟨m, hm⟩ : ∃ m, m = vs := ⟨_, rfl⟩
          rw [← hm] at hv
          cases hv with
          | cons q1 q2 => exact q1.1.2.1)
        refine ⟨u, k2, fun w => ?_⟩
        have hl : (e.den C.V).toNat < vs.length := (List.getElem?_eq_some_iff.1 k1).1
        simp [Instr.index, asIntOf, run_underlying ht, h0, h1, xsize_ok hs, part, xagg_ok ha, k1]
      · exact OutP.none
    · exact OutP.none
  · exact OutP.none
def xindex (P : Program) (ks : Ks) (t : TypeId) (x ix : SV) : Option SV :=
  match litOf ix with
  | none => xindexX P ks t x ix
  | some i =>
    match x, P.underlying t with
    | .pv (.agg cs), some (.array len e) =>
      match xsize P e with
      | some s => if 0 ≤ i ∧ i < len then match xread P e cs (i.toNat * s) with
          | some p => some (.pv p)
          | none => none
        else none
      | none => none
    | .pv (.one (.str s)), some .string =>
      if 0 ≤ i then match s[i.toNat]? with
        | some b => some (.sc (.int .u8 (.lit b.toNat)))
        | none => none
      else none
    | _, _ => none
theorem xindex_ok {ks : Ks} (hks : KsOk C.V ks) (t : TypeId) {x ix : SV} {v i : Value} (hx : x.rel C v) (hi : ix.rel C i) : OutP P C (Instr.index t v i) (xindex P ks t x ix) := by
  unfold xindex
  split
  · exact xindexX_ok hks t hx hi
  · rename_i n hn
    obtain ⟨k, rfl⟩ := litOf_ok hn hi
    split
    · rename_i cs len e ht
      obtain ⟨vs, hv, rfl⟩ := hx
      split
      · rename_i s hs
        split
        · rename_i hb
          split
          · rename_i p hp1
            obtain ⟨u, h1, h2⟩ := xpart_ok hp1 hv
            refine OutP.mk (v := u) (fun w => ?_) h2
            simp [Instr.index, asIntOf, run_underlying ht, hb, xsize_ok hs, h1]
          · exact OutP.none
        · exact OutP.none
      · exact OutP.none
    · rename_i s ht
      have hv : v = .string s := hx
      subst hv
      split
      · rename_i hb
        split
        · rename_i b hsb
          refine OutP.int (fun w => ?_) ⟨trivial, rfl⟩
          simp [Instr.index, asIntOf, run_underlying ht, hb, hsb, den_lit]
        · exact OutP.none
      · exact OutP.none
    · exact OutP.none
def xextract (x : SV) (i : Nat) : Option SV :=
  match x with
  | .tup ps => match ps[i]? with
    | some p => some (.pv p)
    | none => none
  | _ => none
theorem xextract_ok (i : Nat) {x : SV} {v : Value} (hx : x.rel C v) : OutP P C (Instr.extract v i) (xextract x i) := by
  unfold xextract
  split
  · rename_i ps
    obtain ⟨vs, hv, rfl⟩ := hx
    split
    · rename_i p hp1
      obtain ⟨u, h1, h2⟩ := hv.get _ _ hp1
      refine OutP.mk (v := u) (fun w => ?_) h2
      simp [Instr.extract, h1]
    · exact OutP.none
  · exact OutP.none
/-! ### slices of slices -/
def litOr (d : Int) : Option SV → Option Int
  | none => some d
  | some x => litOf x
/-- lower and upper bound, at most 'most' -/
def xbounds (len most : Nat) (lo hi : Option SV) : Option (Nat × Nat) :=
  match litOr len hi, litOr 0 lo with
  | some h, some l => if 0 ≤ l ∧ l ≤ h ∧ h ≤ most then some (l.toNat, h.toNat) else none
  | _, _ => none
def optRel (C : Ctx) : Option SV → Option Value → Prop
  | none, v => v = none
  | some x, v => ∃ u, v = some u ∧ x.rel C u
theorem xbounds_ok {len most cap l h : Nat} {lo hi : Option SV} {ulo uhi : Option Value} (hb : xbounds len most lo hi = some (l, h)) (hm : most ≤ cap) (hlo : optRel C lo ulo) (hhi : optRel C hi uhi) (b : Bool) :
    l ≤ h ∧ h ≤ most ∧ ∀ w : World, (Instr.sliceBounds b len cap ulo uhi none).run P w = .ok (l, h, cap) w := by
  unfold xbounds at hb
  split at hb
  · rename_i h1 l1 hh hl
    split at hb
    · rename_i hc
      simp only [Option.some.injEq, Prod.mk.injEq] at hb
      obtain ⟨rfl, rfl⟩ := hb
      refine ⟨by omega, by omega, fun w => ?_⟩
      have e1 : h1.toNat = h1 := Int.toNat_of_nonneg (by omega)
      cases hi with
      | none =>
        cases hhi
        simp only [litOr, Option.some.injEq] at hh
        subst hh
        cases lo with
        | none =>
          cases hlo
          simp only [litOr, Option.some.injEq] at hl
          subst hl
          simp [Instr.sliceBounds]
        | some x =>
          obtain ⟨u, rfl, hu⟩ := hlo
          obtain ⟨k, rfl⟩ := litOf_ok hl hu
          simp [Instr.sliceBounds]
          rw [run_sliceBound _ _ _ _ _ hc.1 (by omega)]
          simp
      | some y =>
        obtain ⟨z, rfl, hz⟩ := hhi
        obtain ⟨k1, rfl⟩ := litOf_ok hh hz
        cases lo with
        | none =>
          cases hlo
          simp only [litOr, Option.some.injEq] at hl
          subst hl
          simp [Instr.sliceBounds]
          rw [run_sliceBound _ _ _ _ _ (by omega) (by omega)]
          simp
        | some x =>
          obtain ⟨u, rfl, hu⟩ := hlo
          obtain ⟨k, rfl⟩ := litOf_ok hl hu
          simp [Instr.sliceBounds]
          rw [run_sliceBound _ _ _ _ _ (by omega) (by omega)]
          simp
          rw [run_sliceBound _ _ _ _ _ (by omega) (by omega)]
          simp
    · cases hb
  · cases hb
def xslice (P : Program) (t : TypeId) (x : SV) (lo hi mx : Option SV) : Option SV :=
  match mx, P.underlying t, x with
  | none, some (.slice e), .pv (.one (.slice b o len cap el)) =>
    match xsize P e, xbounds len (if el then len else cap) lo hi with
    | some s, some (l, h) =>
      if el then (if l = 0 ∨ l < len then some (.sc (.slice b (o + l * s) (h - l) (cap + l) true)) else none)
      else some (.sc (.slice b (if cap = l then o else o + l * s) (h - l) (cap - l) false))
    | _, _ => none
  | none, some (.slice e), .pv (.one .nils) =>
    match xsize P e, xbounds 0 0 lo hi with
    | some s, some (l, h) => some (.sc .nils)
    | _, _ => none
  | none, some (.array n e), .pv (.one (.ptr b o)) =>
    match xsize P e, xbounds n n lo hi with
    | some s, some (l, h) => some (.sc (.slice b (if n = l then o else o + l * s) (h - l) (n - l) false))
    | _, _ => none
  | none, some .string, .pv (.one (.str s)) =>
    match xbounds s.size s.size lo hi with
    | some (l, h) => some (.sc (.str (s.extract l h)))
    | _ => none
  | some m, some (.slice e), .pv (.one (.slice b o len cap el)) =>
    match litOf m, xsize P e, lo, hi with
    | some m, some s, none, some hi' => match litOf hi' with
      | some h => if 0 ≤ h ∧ h ≤ m ∧ m ≤ (if el then len else cap : Nat) then some (.sc (.slice b o h.toNat m.toNat false)) else none
      | none => none
    | _, _, _, _ => none
  | _, _, _ => none
theorem xslice_ok (t : TypeId) {x : SV} {v : Value} {lo hi mx : Option SV} {ulo uhi umx : Option Value} (hx : x.rel C v) (hlo : optRel C lo ulo) (hhi : optRel C hi uhi) (hmx : optRel C mx umx) :
    OutP P C (Instr.sliceAt t v ulo uhi umx) (xslice P t x lo hi mx) := by
  unfold xslice
  split
  · rename_i e b o len cap el ht
    cases hmx
    split
    · rename_i s l h' hs hb
      obtain ⟨g, c, hg, rfl, hcap⟩ := hx
      cases el with
      | true =>
        have hcap := hcap rfl
        simp only [if_true] at hb ⊢
        obtain ⟨b1, b2, b3⟩ := xbounds_ok (P := P) (cap := c - cap) hb (by omega) hlo hhi true
        split
        · rename_i hc
          refine OutP.mk (v := .slice (some ⟨g, o + l * s, none⟩) (h' - l) (c - (cap + l))) (fun w => ?_) ⟨g, c, hg, rfl, fun _ => by omega⟩
          simp only [Instr.sliceAt, Instr.slice, Sem.run_bind, run_underlying ht, Result.andThen_ok, b3, xsize_ok hs, Sem.run_pure]
          by_cases h0 : l = 0
          · subst h0; simp [Addr.add_lit]
          · rw [if_neg (by omega)]
            simp [Addr.add_lit]; omega
        · exact OutP.none
      | false =>
        simp only [Bool.false_eq_true, if_false] at hb ⊢
        obtain ⟨b1, b2, b3⟩ := xbounds_ok (P := P) (cap := cap) hb (Nat.le_refl _) hlo hhi true
        refine OutP.mk (v := .slice (some ⟨g, (if cap = l then o else o + l * s), none⟩) (h' - l) (cap - l)) (fun w => ?_) ⟨g, c, hg, by simp, fun e => nomatch e⟩
        simp only [Instr.sliceAt, Instr.slice, Sem.run_bind, run_underlying ht, Result.andThen_ok, b3, xsize_ok hs, Sem.run_pure]
        split <;> simp [Addr.add_lit]
    · exact OutP.none
  · rename_i e ht
    cases hmx
    have hv : v = .slice none 0 0 := hx
    subst hv
    split
    · rename_i s l h' hs hb
      obtain ⟨b1, b2, b3⟩ := xbounds_ok (P := P) (cap := 0) hb (Nat.le_refl _) hlo hhi true
      refine OutP.mk (v := .slice none 0 0) (fun w => ?_) rfl
      simp only [Instr.sliceAt, Instr.slice, Sem.run_bind, run_underlying ht, Result.andThen_ok, b3, xsize_ok hs, Sem.run_pure]
      have : h' = 0 := by omega
      have : l = 0 := by omega
      subst_vars
      rfl
    · exact OutP.none
  · rename_i n e b o ht
    cases hmx
    split
    · rename_i s l h' hs hb
      obtain ⟨g, c, hg, rfl⟩ := hx
      obtain ⟨b1, b2, b3⟩ := xbounds_ok (P := P) (cap := n) hb (Nat.le_refl _) hlo hhi false
      refine OutP.mk (v := .slice (some ⟨g, (if n = l then o else o + l * s), none⟩) (h' - l) (n - l)) (fun w => ?_) ⟨g, c, hg, by simp, fun e => nomatch e⟩
      simp only [Instr.sliceAt, Instr.sureAddr, Sem.run_bind, run_underlying ht, Result.andThen_ok, b3, xsize_ok hs, Sem.run_pure]
      split <;> simp [Addr.add_lit]
    · exact OutP.none
  · rename_i s ht
    cases hmx
    have hv : v = .string s := hx
    subst hv
    split
    · rename_i l h' hb
      obtain ⟨b1, b2, b3⟩ := xbounds_ok (P := P) (cap := s.size) hb (Nat.le_refl _) hlo hhi false
      refine OutP.mk (v := .string (s.extract l h')) (fun w => ?_) rfl
      simp [Instr.sliceAt, Instr.slice, run_underlying ht, b3]
    · exact OutP.none
  · rename_i m e b o len cap el ht
    obtain ⟨um, rfl, hm⟩ := hmx
    obtain ⟨g, c, hg, hv, hcap⟩ := hx
    have hle : (if el then len else cap) ≤ (if el then c - cap else cap) := by
      cases el with
      | true => have := hcap rfl; simp only [if_true]; omega
      | false => exact Nat.le_refl _
    clear hcap
    generalize (if el then len else cap) = cap0 at hle ⊢
    generalize (if el then c - cap else cap) = cap1 at hv hle
    subst hv
    split
    · rename_i m' s hi' hmm hs
      cases hlo
      obtain ⟨uh, rfl, hh⟩ := hhi
      obtain ⟨km, rfl⟩ := litOf_ok hmm hm
      split
      · rename_i h' hl
        obtain ⟨kh, rfl⟩ := litOf_ok hl hh
        split
        · rename_i hc
          refine OutP.mk (v := .slice (some ⟨g, o, none⟩) h'.toNat m'.toNat) (fun w => ?_) ⟨g, c, hg, by simp, fun e => nomatch e⟩
          simp only [Instr.sliceAt, Instr.slice, Sem.run_bind, run_underlying ht, Result.andThen_ok, Instr.sliceBounds, Bool.false_eq_true, if_false, if_true, Sem.run_pure]
          rw [run_sliceBound _ _ _ _ _ (by omega) (by omega)]
          simp only [Result.andThen_ok]
          rw [run_sliceBound _ _ _ _ _ (by omega) (by omega)]
          simp [xsize_ok hs, Addr.add_lit]
        · exact OutP.none
      · exact OutP.none
    · exact OutP.none
  · exact OutP.none
end
end
end Go.Proofs.YtkogjjeoihnjpaaGreat.Sx
end
section
set_option linter.unusedVariables false
set_option linter.unusedSimpArgs false
namespace Go.Proofs.YtkogjjeoihnjpaaGreat.Sx
open Go
noncomputable section
section
variable {P : Program} {C : Ctx} {hp : Hp} {w : World}
theorem foldl_splice (vs : List Value) : ∀ (off k : Nat) (cells : List Value), off + k + vs.length ≤ cells.length →
    ((vs.zipIdx k).foldl (fun cs (x : Value × Nat) => cs.setIfInBounds (off + x.2) x.1) cells.toArray) = (cells.take (off + k) ++ vs ++ cells.drop (off + k + vs.length)).toArray := by
  induction vs with
  | nil => intro off k cells h; simp
  | cons v vs ih =>
    intro off k cells h
    rw [List.zipIdx_cons, List.foldl_cons]
    simp only [List.setIfInBounds_toArray]
    have hl : off + (k + 1) + vs.length ≤ (cells.set (off + k) v).length := by simp at h ⊢; omega
    rw [ih off (k + 1) (cells.set (off + k) v) hl]
    congr 1
    have e1 : (cells.set (off + k) v).take (off + (k + 1)) = cells.take (off + k) ++ [v] := by
      rw [show off + (k + 1) = (off + k) + 1 by omega, List.take_add_one]
      rw [List.take_set_of_le (by omega)]
      have : off + k < cells.length := by simp at h; omega
      simp [this]
    have e2 : (cells.set (off + k) v).drop (off + (k + 1) + vs.length) = cells.drop (off + k + (v :: vs).length) := by
      rw [List.drop_set_of_lt (by omega)]
      congr 1
      simp; omega
    rw [e1, e2]
    simp [List.append_assoc]
def xfill (place : Nat → Option (Nat × Nat)) (row : List SC) : List (Nat × SV) → Option (List SC)
  | [] => some row
  | (i, .pv p) :: rest =>
    match place i with
    | some (off, size) => if p.cells.length = size ∧ off + size ≤ row.length then xfill place (xsplice row off p.cells) rest else none
    | none => none
  | _ => none
def partRel (C : Ctx) (x : Nat × SV) (y : Nat × Value) : Prop := y.1 = x.1 ∧ x.2.rel C y.2
theorem xfill_ok {place : Nat → Option (Nat × Nat)} : ∀ {ps : List (Nat × SV)} {row row' : List SC} {us : List (Nat × Value)} {vs : List Value}, xfill place row ps = some row' → All2 (partRel C) ps us → All2 (SC.rel C) row vs →
    ∃ vs', Instr.fill place vs.toArray us = some vs'.toArray ∧ All2 (SC.rel C) row' vs'
  | [], row, row', us, vs, h, hu, hv => by cases hu; cases h; exact ⟨vs, rfl, hv⟩
  | (i, sv) :: ps, row, row', us, vs, h, hu, hv => by
    cases hu with
    | @cons _ u _ us h1 h2 =>
      obtain ⟨j, v⟩ := u
      obtain ⟨e, hr⟩ := h1
      simp only at e hr
      subst e
      cases sv with
      | tup qs => simp [xfill] at h
      | any => simp [xfill] at h
      | pv p =>
        simp only [xfill] at h
        split at h
        · rename_i off size hpl
          split at h
          · rename_i hc
            obtain ⟨cs, hcs, hvc⟩ := PV.rel.cells (p := p) hr
            have hl1 := hcs.length
            have hl2 := hv.length
            have hspl : All2 (SC.rel C) (xsplice row off p.cells) (vs.take off ++ cs ++ vs.drop (off + cs.length)) := by
              rw [xsplice_eq row off p.cells (by omega), hl1]
              exact ((hv.take off).append hcs).append (hv.drop _)
            obtain ⟨vs', k1, k2⟩ := xfill_ok h h2 hspl
            refine ⟨vs', ?_, k2⟩
            simp only [Instr.fill, hpl, hvc]
            have hsz : ¬ (cs.toArray.size ≠ size ∨ off + cs.toArray.size > vs.toArray.size) := by simp; omega
            have hf := foldl_splice cs off 0 vs (by omega)
            simp only [Nat.add_zero] at hf
            have hz : cs.toArray.zipIdx.foldl (fun (cs : Array Value) (x : Value × Nat) => cs.setIfInBounds (off + x.2) x.1) vs.toArray = (vs.take off ++ cs ++ vs.drop (off + cs.length)).toArray := by
              rw [← hf]; simp
            have hcond : (decide (cs.toArray.size ≠ size) || decide (off + cs.toArray.size > vs.toArray.size)) = false := by simp; omega
            rw [if_neg (by simpa using hsz)]
            rw [hz]
            exact k1
          · cases h
        · cases h
def xplaces (P : Program) (fs : List Field) : Option (List (Nat × Nat)) :=
  match fs with
  | [] => some []
  | f :: fs => match xsize P f.type, xplaces P fs with
    | some s, some r => some ((f.offset, s) :: r)
    | _, _ => none
theorem xplaces_ok : ∀ {fs : List Field} {l : List (Nat × Nat)}, xplaces P fs = some l → ∀ w : World, (fs.mapM (fun f => do pure (f.offset, ← sizeOf f.type)) : Sem (List (Nat × Nat))).run P w = .ok l w
  | [], l, h, w => by cases h; rfl
  | f :: fs, l, h, w => by
    unfold xplaces at h
    split at h
    · rename_i s r hs hr
      cases h
      rw [List.mapM_cons]
      simp only [Sem.run_bind, xsize_ok hs, Result.andThen_ok, Sem.run_pure]
      rw [xplaces_ok hr w]
      rfl
    · cases h
def xbuild (P : Program) (t : TypeId) (parts : List (Nat × SV)) : Option SV :=
  match xzero P t, P.underlying t with
  | some z, some (.struct fs) =>
    match xplaces P fs.toList with
    | some l => match xfill (fun i => l[i]?) z.cells parts with
      | some row => some (.pv (.agg row))
      | none => none
    | none => none
  | some z, some (.array _ e) =>
    match xsize P e with
    | some s => match xfill (fun i => some (i * s, s)) z.cells parts with
      | some row => some (.pv (.agg row))
      | none => none
    | none => none
  | _, _ => none
theorem xbuild_ok (t : TypeId) {ps : List (Nat × SV)} {us : List (Nat × Value)} (hu : All2 (partRel C) ps us) : OutP P C (Instr.build t us.toArray) (xbuild P t ps) := by
  unfold xbuild
  split
  · rename_i z fs hz ht
    obtain ⟨zv, hz1, hz2⟩ := xzero_ok hz C
    obtain ⟨zs, hz3, hz4⟩ := hz2.cells
    split
    · rename_i l hl
      split
      · rename_i row hr
        obtain ⟨vs, k1, k2⟩ := xfill_ok hr hu hz3
        refine OutP.mk (v := .agg vs.toArray) (fun w => ?_) ⟨vs, k2, rfl⟩
        have hm := xplaces_ok hl w
        simp only [Instr.build, Sem.run_bind, hz1, Result.andThen_ok, run_underlying ht, hz4]
        rw [Array.mapM_eq_mapM_toList]
        simp only [Sem.run_map, hm, Result.andThen_ok]
        have : (fun x : Nat => l.toArray[x]?) = (fun i : Nat => l[i]?) := by funext i; simp
        simp only [this, k1]
        rfl
      · exact OutP.none
    · exact OutP.none
  · rename_i z n e hz ht
    obtain ⟨zv, hz1, hz2⟩ := xzero_ok hz C
    obtain ⟨zs, hz3, hz4⟩ := hz2.cells
    split
    · rename_i s hs
      split
      · rename_i row hr
        obtain ⟨vs, k1, k2⟩ := xfill_ok hr hu hz3
        refine OutP.mk (v := .agg vs.toArray) (fun w => ?_) ⟨vs, k2, rfl⟩
        simp only [Instr.build, Sem.run_bind, hz1, Result.andThen_ok, run_underlying ht, hz4, xsize_ok hs, k1]
        rfl
      · exact OutP.none
    · exact OutP.none
  · exact OutP.none
/-! ### rows of zeros -/
def xzeros (z : List SC) (n : Nat) : List SC :=
  match z with
  | [c] => List.replicate n c
  | z => (List.range n).map fun j => z.getD (j % z.length) .undef
theorem xzeros_ok {z : List SC} {zs : List Value} (hz : All2 (SC.rel C) z zs) (n : Nat) (h : n = 0 ∨ 0 < z.length) : All2 (SC.rel C) (xzeros z n) ((Array.range n).map (fun i => zs.toArray[i % zs.toArray.size]!)).toList := by
  have gen : All2 (SC.rel C) ((List.range n).map fun j => z.getD (j % z.length) .undef) ((Array.range n).map (fun i => zs.toArray[i % zs.toArray.size]!)).toList := by
    have e : ((Array.range n).map (fun i => zs.toArray[i % zs.toArray.size]!)).toList = (List.range n).map (fun i => zs.toArray[i % zs.toArray.size]!) := by
      rw [Array.toList_map, Array.toList_range]
    rw [e]
    refine All2.of_map fun j hj => ?_
    have hn : j < n := by simpa using hj
    have hl := hz.length
    have hlt : j % z.length < z.length := Nat.mod_lt _ (by omega)
    obtain ⟨v, k1, k2⟩ := hz.get (j % z.length) (z[j % z.length]'hlt) (by simp)
    have : zs.toArray[j % zs.toArray.size]! = v := by
      simp only [List.size_toArray, ← hl]
      simp [k1]
    rw [this]
    simpa [List.getD, hlt] using k2
  unfold xzeros
  split
  · rename_i c
    have e : ((List.range n).map fun j => [c].getD (j % [c].length) .undef) = List.replicate n c := by
      apply List.ext_getElem?
      intro i
      by_cases hi : i < n <;> simp [hi, Nat.mod_one, List.getElem?_replicate]
    rw [← e]
    exact gen
  · exact gen
def xbuildSlice (P : Program) (t : TypeId) (len : Nat) (parts : List (Nat × SV)) (hp : Hp) : XR :=
  match P.underlying t with
  | some (.slice e) =>
    match xsize P e, xzero P e with
    | some s, some z =>
      if len * s ≤ 16777216 ∧ (len * s = 0 ∨ 0 < z.cells.length) then
        match xfill (fun i => some (i * s, s)) (xzeros z.cells (len * s)) parts with
        | some row => xnew hp row e s false fun n => .sc (.slice n 0 len len false)
        | none => .bad "buildSlice"
      else .bad "buildSlice"
    | _, _ => .bad "buildSlice"
  | _ => .bad "buildSlice"
theorem SV.rel_slice {b g c : Nat} (h : C.bl b = some (g, c)) {o n m : Nat} : SV.rel C (.sc (.slice b o n m false)) (.slice (some ⟨g, o, none⟩) n m) := ⟨g, c, h, rfl, fun e => nomatch e⟩
theorem xbuildSlice_ok (h : HRel C hp w) (t : TypeId) (len : Nat) {ps : List (Nat × SV)} {us : List (Nat × Value)} (hu : All2 (partRel C) ps us) : Out P C w (Instr.buildSlice t len us.toArray) (xbuildSlice P t len ps hp) := by
  unfold xbuildSlice
  split
  · rename_i e ht
    split
    · rename_i s z hs hz
      obtain ⟨zv, hz1, hz2⟩ := xzero_ok hz C
      obtain ⟨zs, hz3, hz4⟩ := hz2.cells
      split
      · rename_i hc
        split
        · rename_i row hr
          obtain ⟨vs, k1, k2⟩ := xfill_ok hr hu (xzeros_ok hz3 (len * s) hc.2)
          intro Φ hx
          obtain ⟨hp', m1, m2, m3, m4⟩ := xnew_ok h k2 (spare := []) (c := 0) (el := false) (fun _ => rfl) (fun e => nomatch e) hx
          refine ⟨_, _, .slice (some ⟨w.heap.size, 0, none⟩) len len, .sc (.slice hp.nx 0 len len false), hp', ?_, SV.rel_slice m3, m1, m2, by rw [env_add]; exact m4⟩
          have hle : ¬ (len * s > 2 ^ 24) := by omega
          have hfill : Instr.fill (fun i => some (i * s, s)) (Array.map (fun i => zs.toArray[i % zs.toArray.size]!) (Array.range (len * s))) us = some vs.toArray := by
            simpa only [Array.toArray_toList] using k1
          by_cases h0 : len * s = 0
          · simp only [Instr.buildSlice, Sem.run_bind, run_underlying ht, Result.andThen_ok, xsize_ok hs, if_neg hle, h0, if_true, Sem.run_pure, Sem.run_ite]
            rw [h0] at hfill
            simp only [Array.range_zero', Array.map_empty] at hfill
            have hn2 : ¬ (0 > 2 ^ 24) := by decide
            simp only [if_neg hn2, Sem.run_pure, Result.andThen_ok, Array.range_zero', Array.map_empty, hfill]
            simp [newRow, alloc_eq]
          · simp only [Instr.buildSlice, Sem.run_bind, run_underlying ht, Result.andThen_ok, xsize_ok hs, if_neg hle, if_neg h0, Sem.run_pure, Sem.run_ite, hz1, hz4]
            simp only [hfill, List.toList_toArray]
            simp [newRow, alloc_eq]
        · exact Out.bad
      · exact Out.bad
    · exact Out.bad
  · exact Out.bad
end
end
end Go.Proofs.YtkogjjeoihnjpaaGreat.Sx
end
