/- A program run on terms: make, append, copy, len, cap, min, max. No condition. A program run on terms: copy, len, cap, min, max; maps. No condition. A program run on terms: operators that look at no memory. No condition. A program run on terms: one operation. No condition. -/
import Derived.Test.YtkogjjeoihnjpaaGreatPack3
import Derived.Maps.RangeRun
import Derived.Laws.BytesString
section
set_option linter.unusedVariables false
set_option linter.unusedSimpArgs false
namespace Go.Proofs.YtkogjjeoihnjpaaGreat.Sx
open Go
noncomputable section
section
variable {P : Program} {C : Ctx} {hp : Hp} {w : World}
def xmake (P : Program) (t : TypeId) (l c : SV) (hp : Hp) : XR :=
  match litOf l, litOf c, P.underlying t with
  | some l, some c, some (.slice e) =>
    match P.info? e, xzero P e with
    | some i, some z =>
      if 0 ≤ l ∧ l ≤ c ∧ c.toNat * i.size ≤ 16777216 ∧ (i.bytes : Int) * c ≤ 281474976710656 ∧ c ≤ 9223372036854775807 ∧ (c.toNat * i.size = 0 ∨ 0 < z.cells.length) then
        bif Nat.blt 256 (c.toNat * i.size) && z.cells.all SC.ok then xnewW hp (xzeros z.cells (c.toNat * i.size)) e i.size false fun n => .sc (.slice n 0 l.toNat c.toNat false)
        else xnew hp (xzeros z.cells (c.toNat * i.size)) e i.size false fun n => .sc (.slice n 0 l.toNat c.toNat false)
      else .bad "make"
    | _, _ => .bad "make"
  | _, _, _ => .bad "make"
theorem xzeros_all {z : List SC} {n : Nat} (hz : z.all SC.ok = true) (h : n = 0 ∨ 0 < z.length) : (xzeros z n).all SC.ok = true := by
  unfold xzeros
  split
  · rename_i c
    simp only [List.all_cons, List.all_nil, Bool.and_true] at hz
    rw [List.all_eq_true]
    intro x hx
    rw [(List.mem_replicate.1 hx).2]; exact hz
  · rw [List.all_eq_true]
    intro x hx
    obtain ⟨j, hj, rfl⟩ := List.mem_map.1 hx
    have hn := List.mem_range.1 hj
    have hl : 0 < z.length := by rcases h with h | h <;> omega
    have hlt : j % z.length < z.length := Nat.mod_lt _ hl
    rw [List.getD_eq_getElem?_getD, List.getElem?_eq_getElem hlt]
    exact List.all_eq_true.1 hz _ (List.getElem_mem hlt)
theorem madeCells_eq (z : Array Value) (n : Nat) : madeCells z n = (Array.range n).map (fun i => z[i % z.size]!) ∨ True := .inr trivial
theorem xmake_ok (h : HRel C hp w) (t : TypeId) {l c : SV} {ul uc : Value} (hl : l.rel C ul) (hc : c.rel C uc) : Out P C w (Instr.makeSlice t ul uc) (xmake P t l c hp) := by
  unfold xmake
  split
  · rename_i ln cn e hln hcn ht
    obtain ⟨kl, rfl⟩ := litOf_ok hln hl
    obtain ⟨kc, rfl⟩ := litOf_ok hcn hc
    split
    · rename_i i z hi hz
      split
      · rename_i hcond
        obtain ⟨c1, c2, c3, c4, c5, c6⟩ := hcond
        have hz' := hz
        unfold xzero at hz'
        rw [hi] at hz'
        simp only at hz'
        split at hz'
        · rename_i zv hzv
          have hr := ofValue_rel C hz'
          obtain ⟨zs, hz3, hz4⟩ := hr.cells
          have hrun := run_makeSlice (P := P) w t e i zv ht hi hzv kl kc ln cn c1 c2 c3 c4 c5
          intro Φ hx
          have hx : (xnew hp (xzeros z.cells (cn.toNat * i.size)) e i.size false fun n => .sc (.slice n 0 ln.toNat cn.toNat false)).holds Φ C.V := by
            cases hb : (Nat.blt 256 (cn.toNat * i.size) && z.cells.all SC.ok) with
            | true =>
              rw [hb, cond_true] at hx
              simp only [Bool.and_eq_true] at hb
              exact xnewW_new (xzeros_all hb.2 c6) hx
            | false => rw [hb, cond_false] at hx; exact hx
          have hzr := xzeros_ok (C := C) hz3 (cn.toNat * i.size) c6
          obtain ⟨hp', m1, m2, m3, m4⟩ := xnew_ok h hzr (spare := []) (c := 0) (el := false) (fun _ => rfl) (fun e => nomatch e) hx
          refine ⟨_, _, .slice (some ⟨w.heap.size, 0, none⟩) ln.toNat cn.toNat, .sc (.slice hp.nx 0 ln.toNat cn.toNat false), hp', ?_, SV.rel_slice m3, m1, m2, by rw [env_add]; exact m4⟩
          rw [hrun]
          congr 2
          rw [List.append_nil, Array.toArray_toList, hz4]
          unfold madeCells
          by_cases h0 : cn.toNat * i.size = 0
          · simp [h0]
          · simp [h0]
        · cases hz'
      · exact Out.bad
    · exact Out.bad
  · exact Out.bad
/-! ### append -/
/-- a part of a row; the whole is not gone through -/
def takeF (row : List SC) (o n : Nat) : List SC := bif Nat.beq o 0 && Nat.beq n row.length then row else (row.drop o).take n
theorem takeF_eq (row : List SC) (o n : Nat) : takeF row o n = (row.drop o).take n := by
  unfold takeF
  cases hb : (Nat.beq o 0 && Nat.beq n row.length) with
  | false => rfl
  | true =>
    simp only [Bool.and_eq_true] at hb
    rw [Nat.eq_of_beq_eq_true hb.1, Nat.eq_of_beq_eq_true hb.2]
    simp
def xnews (P : Program) (xT : TypeId) (size : Nat) (x : SV) (hs : Hs) : Option (Nat × List SC) :=
  match P.underlying xT, x with
  | some (.slice _), .pv (.one .nils) => some (0, [])
  | some (.slice _), .pv (.one (.slice b o len _ _)) =>
    match hget hs b with
    | some (.cells row _ _ _) => if o + len * size ≤ row.length then some (len, takeF row o (len * size)) else none
    | _ => none
  | some .string, .pv (.one (.str s)) => if size = 1 then some (s.size, s.data.toList.map fun b => .int .u8 (.lit b.toNat)) else none
  | _, _ => none
structure News (P : Program) (C : Ctx) (w : World) (size : Nat) (v : Value) (n : Nat) (cs : List SC) (news : List Value) : Prop where
  rel : All2 (SC.rel C) cs news
  len : news.length = n * size
  lenOf : ∀ w : World, (Builtin.lenOf v).run P w = .ok n w
  first : ∀ w' : World, w'.heap = w.heap → (Builtin.firstCells size n v).run P w' = .ok news.toArray w'
theorem slice_news (h : HRel C hp w) {b o len cap : Nat} {el : Bool} {row : List SC} {T es q : _} (hb : hget hp.H b = some (.cells row T es q)) {size : Nat} (hl : o + len * size ≤ row.length) {v : Value} (hv : SC.rel C (.slice b o len cap el) v) :
    ∃ news, News P C w size v len ((row.drop o).take (len * size)) news := by
  obtain ⟨g, c, hg, hv, _⟩ := hv
  generalize (if el = true then c - cap else cap) = qq at hv
  subst hv
  obtain ⟨g', c', k1, vs, sp, h1, h2, _⟩ := h.at_ _ _ hb
  rw [hg] at k1; cases k1
  have hlen := h1.length
  refine ⟨(vs.drop o).take (len * size), (h1.drop o).take _, by simp; omega, fun w => rfl, fun w' hw => ?_⟩
  refine run_firstCells_some (P := P) w' size len ⟨g, o, none⟩ len qq _ (by simp; omega) fun j v hj => ?_
  rw [List.getElem?_take] at hj
  split at hj
  · rw [List.getElem?_drop] at hj
    have hlt := (List.getElem?_eq_some_iff.1 hj).1
    simp only [Addr.add_lit, World.cell?, hw, h2]
    simp [List.getElem?_append_left hlt, hj]
  · cases hj
theorem xnews_ok (h : HRel C hp w) {xT : TypeId} {size : Nat} {x : SV} {n : Nat} {cs : List SC} (hx : xnews P xT size x hp.H = some (n, cs)) {v : Value} (hv : x.rel C v) :
    ((∃ e, P.underlying xT = some (.slice e)) ∨ P.underlying xT = some .string) ∧ ∃ news, News P C w size v n cs news := by
  unfold xnews at hx
  split at hx
  · rename_i e' ht
    cases hx
    have e : v = .slice none 0 0 := hv
    subst e
    exact ⟨.inl ⟨_, ht⟩, [], .nil, by simp, fun w => rfl, fun w' _ => by simp [Builtin.firstCells]⟩
  · rename_i e' b o len cap el ht
    split at hx
    · rename_i row T es q hb
      split at hx
      · rename_i hl
        cases hx
        rw [takeF_eq]
        exact ⟨.inl ⟨_, ht⟩, slice_news h hb hl hv⟩
      · cases hx
    · cases hx
  · rename_i s ht
    split at hx
    · rename_i hs
      cases hx
      subst hs
      have e : v = .string s := hv
      subst e
      refine ⟨.inr ht, s.data.toList.map (fun b => Value.int .u8 b.toNat), All2.of_map fun b _ => ⟨trivial, rfl⟩, by simp, fun w => rfl, fun w' _ => ?_⟩
      have : s.extract 0 s.size = s := by
        rw [ByteArray.ext_iff]
        simp
      simp only [Builtin.firstCells, this, Sem.run_pure]
      congr 1
      apply Array.ext'
      simp
    · cases hx
  · cases hx
theorem xnews_all (h : HRel C hp w) {xT : TypeId} {size : Nat} {x : SV} {n : Nat} {cs : List SC} (hx : xnews P xT size x hp.H = some (n, cs)) : cs.all SC.ok = true := by
  unfold xnews at hx
  split at hx
  · cases hx; rfl
  · rename_i e' b o len cap el ht
    split at hx
    · rename_i row T es q hb
      split at hx
      · rename_i hl
        cases hx
        obtain ⟨g, c, _, vs, sp, _, _, _, _, hok⟩ := h.at_ _ _ hb
        rw [takeF_eq, List.all_eq_true]
        exact fun y hy => List.all_eq_true.1 hok y (List.mem_of_mem_drop (List.mem_of_mem_take hy))
      · cases hx
    · cases hx
  · split at hx
    · cases hx
      rw [List.all_eq_true]
      intro y hy
      obtain ⟨b, _, rfl⟩ := List.mem_map.1 hy
      rfl
    · cases hx
  · cases hx
theorem run_append_new {t xT ty e : TypeId} {i : TypeInfo} {z : Value} (ht : P.underlying t = some (.slice e)) (hi : P.info? e = some i) (hz : i.zero = some z) (hd : (∃ e, P.underlying xT = some (.slice e)) ∨ P.underlying xT = some .string)
    {base : Option Addr} {sLen sCap n : Nat} {x : Value} {olds news : List Value} (hlen : ∀ w : World, (Builtin.lenOf x).run P w = .ok n w)
    (hold : ∀ w' : World, w'.heap = w.heap → (Builtin.firstCells i.size sLen (.slice base sLen sCap)).run P w' = .ok olds.toArray w')
    (hnew : ∀ w' : World, w'.heap = w.heap → (Builtin.firstCells i.size n x).run P w' = .ok news.toArray w')
    (hg : ¬ (sLen + n ≤ sCap)) (h63 : sLen + n ≤ 9223372036854775807) (hfit : Builtin.nextslicecap (sLen + n) sCap * i.bytes ≤ 281474976710656) :
    (Builtin.append_ #[t, xT] ty #[.slice base sLen sCap, x]).run P w =
      .ok (.slice (some ⟨w.heap.size, 0, none⟩) (sLen + n) (grownCap w (sLen + n) sCap e))
        (w.drew.alloc (.cells (olds.toArray ++ news.toArray ++ Builtin.zeroCells z.cells (grownCap w (sLen + n) sCap e - (sLen + n))) e)) := by
  have e1 := hold w.drew rfl
  have e2 := hnew w.drew rfl
  have h63a : ¬ (9223372036854775807 < (sLen : Int) + (n : Int)) := by omega
  have h48a : ¬ (281474976710656 < Builtin.nextslicecap (sLen + n) sCap * i.bytes) := by omega
  rcases hd with ⟨e', hd⟩ | hd
  all_goals
    simp only [Builtin.append_, Sem.run_bind, run_underlying ht, run_underlying hd, run_size hi, Result.andThen_ok, List.getElem?_toArray, List.getElem?_cons_zero, List.getElem?_cons_succ]
    simp [typeInfo, zeroValue, hi, hz, hlen, hg, Question.forced, newRow, grownCap, h63a, h48a, e1, e2]
    congr 2
    apply Array.ext'
    simp
theorem run_append_fit {t xT ty e : TypeId} {i : TypeInfo} (ht : P.underlying t = some (.slice e)) (hi : P.info? e = some i) (hd : (∃ e, P.underlying xT = some (.slice e)) ∨ P.underlying xT = some .string)
    {a : Addr} {sLen sCap n : Nat} {x : Value} {news : List Value} {w' : World} (hlen : ∀ w : World, (Builtin.lenOf x).run P w = .ok n w)
    (hnew : (Builtin.firstCells i.size n x).run P w = .ok news.toArray w) (hg : sLen + n ≤ sCap) (hst : (storeCells (a.add (sLen * i.size)) news).run P w = .ok () w') :
    (Builtin.append_ #[t, xT] ty #[.slice (some a) sLen sCap, x]).run P w = .ok (.slice (some a) (sLen + n) sCap) w' := by
  rcases hd with ⟨e', hd⟩ | hd
  all_goals
    simp only [Builtin.append_, Sem.run_bind, run_underlying ht, run_underlying hd, run_size hi, Result.andThen_ok, List.getElem?_toArray, List.getElem?_cons_zero, List.getElem?_cons_succ]
    simp [hlen, hg, hnew, hst]
theorem run_append_nil0 {t xT ty e : TypeId} {i : TypeInfo} (ht : P.underlying t = some (.slice e)) (hi : P.info? e = some i) (hd : (∃ e, P.underlying xT = some (.slice e)) ∨ P.underlying xT = some .string)
    {x : Value} {news : List Value} (hlen : ∀ w : World, (Builtin.lenOf x).run P w = .ok 0 w) (hnew : (Builtin.firstCells i.size 0 x).run P w = .ok news.toArray w) :
    (Builtin.append_ #[t, xT] ty #[.slice none 0 0, x]).run P w = .ok (.slice none 0 0) w := by
  rcases hd with ⟨e', hd⟩ | hd
  all_goals
    simp only [Builtin.append_, Sem.run_bind, run_underlying ht, run_underlying hd, run_size hi, Result.andThen_ok, List.getElem?_toArray, List.getElem?_cons_zero, List.getElem?_cons_succ]
    simp [hlen, hnew]
/-- a block goes on under another number -/
theorem HRel.move (h : HRel C hp w) {b g c : Nat} {blk0 blk' : Blk} {w' : World} (h0 : hget hp.H b = some blk0) (hit0 : blk0.it = false) (hg : C.bl b = some (g, c)) (hcan : hp.can = true) (hw : ∀ k, k ≠ g → w'.heap[k]? = w.heap[k]?) (hs : w'.heap.size = w.heap.size)
    (h1 : w'.tape = w.tape) (h2 : w'.os = w.os) (h3 : w'.output = w.output) (hb : blk'.rel C c w'.heap[g]?) :
    HRel (C.add hp.nx g c) { hp with H := hput (hdel hp.H b) hp.nx blk', nx := hp.nx + 1 } w' ∧ Kp C w (C.add hp.nx g c) w' := by
  have hj := (h.free hp.nx (Hp.can_free hcan)).1
  obtain ⟨j, hjj⟩ : ∃ j, j = hp.nx := ⟨_, rfl⟩
  have hcn := @Hp.can_next hp hcan
  rw [← hjj] at hj hcn ⊢
  have hle := Ctx.le_add (g := g) (c := c) hj
  have hgl : g < w.heap.size := by
    obtain ⟨g1, c1, k1, k2⟩ := h.at_ b blk0 h0
    rw [hg] at k1; cases k1; exact k2.lt
  have old : ∀ x blk, hget (hdel hp.H b) x = some blk → ∃ g1 c1, C.bl x = some (g1, c1) ∧ g1 ≠ g ∧ blk.rel C c1 w.heap[g1]? := fun x blk hx => by
    obtain ⟨k1, k2⟩ := hget_del _ _ _ _ hx
    obtain ⟨g1, c1, m1, m2⟩ := h.at_ x blk k2
    exact ⟨g1, c1, m1, fun e => k1 (h.inj x b blk blk0 g1 c1 c k2 h0 m1 (e ▸ hg)), m2⟩
  have bj : (C.add j g c).bl j = some (g, c) := by simp [Ctx.add]
  have hgS : ¬ C.S g := h.apart b blk0 g c h0 hg
  have hgO : C.O g := h.own b blk0 g c h0 hit0 hg
  refine ⟨⟨⟨fun x blk hx => ?_, fun x x' blk blk1 g1 c1 c2 hx hx' hg1 hg2 => ?_⟩, (h.ext.keep (by omega) (fun k hk => hw k fun e => hgS (e ▸ hk))).mono hle.bl, fun x blk g1 c1 hxx hx => ?_, fun x blk g1 c1 hx hit hg1 => ?_, fun x hb1 => ?_, fun x g1 c1 hx => ?_⟩, hle, by omega, h1, h2, h3, fun k hk hn _ => hw k fun e => hn (e ▸ hgO), fun _ h => .inl h, fun x hx => ?_, fun x g1 c1 hx => ?_⟩
  · rcases hget_put _ _ _ _ _ hx with ⟨rfl, rfl⟩ | hx
    · exact ⟨g, c, bj, hb.le hle⟩
    · obtain ⟨g1, c1, k1, k2, k3⟩ := old x blk hx
      exact ⟨g1, c1, hle.bl _ _ k1, by rw [hw g1 k2]; exact k3.le hle⟩
  · by_cases e : x = j <;> by_cases e' : x' = j
    · rw [e, e']
    · exfalso
      subst e
      rw [bj] at hg1; cases hg1
      rcases hget_put _ _ _ _ _ hx' with ⟨k, _⟩ | hx'
      · exact e' k
      · obtain ⟨g3, c3, k1, k2, k3⟩ := old x' blk1 hx'
        have := hle.bl _ _ k1
        rw [hg2] at this; cases this
        exact k2 rfl
    · exfalso
      subst e'
      rw [bj] at hg2; cases hg2
      rcases hget_put _ _ _ _ _ hx with ⟨k, _⟩ | hx
      · exact e k
      · obtain ⟨g3, c3, k1, k2, k3⟩ := old x blk hx
        have := hle.bl _ _ k1
        rw [hg1] at this; cases this
        exact k2 rfl
    · rcases hget_put _ _ _ _ _ hx with ⟨k, _⟩ | hx
      · exact absurd k e
      · rcases hget_put _ _ _ _ _ hx' with ⟨k, _⟩ | hx'
        · exact absurd k e'
        · simp [Ctx.add, e] at hg1
          simp [Ctx.add, e'] at hg2
          exact h.inj x x' blk blk1 g1 c1 c2 (hget_del _ _ _ _ hx).2 (hget_del _ _ _ _ hx').2 hg1 hg2
  · by_cases e : x = j
    · subst e; rw [bj] at hx; cases hx; exact hgS
    · simp [Ctx.add, e] at hx
      rcases hget_put _ _ _ _ _ hxx with ⟨k, _⟩ | hxx
      · exact absurd k e
      · exact h.apart x blk g1 c1 (hget_del _ _ _ _ hxx).2 hx
  · by_cases e : x = j
    · subst e; rw [bj] at hg1; cases hg1; exact .inl rfl
    · simp [Ctx.add, e] at hg1
      rcases hget_put _ _ _ _ _ hx with ⟨k, _⟩ | hx
      · exact absurd k e
      · exact .inr (h.own x blk g1 c1 (hget_del _ _ _ _ hx).2 hit hg1)
  · obtain ⟨m1, m2⟩ := hcn hb1
    obtain ⟨k1, k2⟩ := h.free x m1
    refine ⟨?_, k2⟩
    simp only [Ctx.add]
    rw [if_neg m2]
    exact k1
  · rw [hs]
    by_cases e : x = j
    · subst e; rw [bj] at hx; cases hx; exact hgl
    · simp [Ctx.add, e] at hx; exact h.blt x g1 c1 hx
  · rcases hx with rfl | hx
    · exact .inl hgO
    · exact .inl hx
  · by_cases e : x = j
    · subst e; rw [bj] at hx; cases hx; exact .inl ⟨b, c, hg⟩
    · simp [Ctx.add, e] at hx; exact .inl ⟨x, c1, hx⟩
/-- append: what is appended; where there is room, and where not -/
def xappend (P : Program) (sT xT : TypeId) (s x : SV) (hp : Hp) : XR :=
  match P.underlying sT with
  | some (.slice e) =>
    match P.info? e, xzero P e with
    | some i, some z =>
      if z.cells.length = i.size ∧ 0 < i.size then
        match xnews P xT i.size x hp.H with
        | some (n, cs) =>
          match s with
          | .pv (.one .nils) =>
            if n = 0 then .ret (.sc .nils, hp)
            else if n * i.bytes ≤ 140737488355328 ∧ n ≤ 9223372036854775807 then
              bif Nat.blt 256 n then xnewW hp cs e i.size true fun j => .sc (.slice j 0 n 0 true) else xnew hp cs e i.size true fun j => .sc (.slice j 0 n 0 true)
            else .bad "append size"
          | .pv (.one (.slice b o len cap false)) =>
            if len + n ≤ cap then
              (xput b (o + len * i.size) cs hp).bind fun r => .ret (.sc (.slice b o (len + n) cap false), r.2)
            else
              match hget hp.H b with
              | some (.cells row _ _ _) =>
                if o + len * i.size ≤ row.length ∧ (len + n) * i.bytes ≤ 140737488355328 ∧ len + n ≤ 9223372036854775807 then
                  xnew hp ((row.drop o).take (len * i.size) ++ cs) e i.size true fun j => .sc (.slice j 0 (len + n) 0 true)
                else .bad "append size"
              | _ => .bad "append no row"
          | .pv (.one (.slice b 0 len 0 true)) =>
            if n = 0 then .ret (s, hp) else
            match hget hp.H b with
            | some (.cells row T es true) =>
              if len * i.size = row.length ∧ T = e ∧ es = i.size ∧ (len + n) * i.bytes ≤ 140737488355328 ∧ len + n ≤ 9223372036854775807 ∧ hp.can ∧ cs.all SC.ok then
                scsK (row ++ cs) fun row => natK hp.nx fun nx => hputK (hdel hp.H b) nx (.cells row e i.size true) fun H => natK (nx + 1) fun nx' => .ret (.sc (.slice nx 0 (len + n) 0 true), { hp with H := H, nx := nx' })
              else .bad "append not at the end"
            | _ => .bad "append no row"
          | _ => .bad "append"
        | none => .bad "append what"
      else .bad "append size"
    | _, _ => .bad "append"
  | _ => .bad "append"
theorem HRel.drew (h : HRel C hp w) : HRel C hp w.drew := h.same rfl
theorem Kp.drew (C : Ctx) (w : World) : Kp C w C w.drew := Kp.same rfl rfl rfl rfl
theorem grown_rest (z : Array Value) (n m : Nat) (hz : z.size = m) : (Builtin.zeroCells z n).toList.length = n * m := by
  rw [Array.length_toList, size_zeroCells, hz]
/-- the new row of an append -/
theorem new_row (h : HRel C hp w) {e : TypeId} {i : TypeInfo} {zv : Value} {m : Nat} (hsz : zv.cells.size = i.size) {row : List SC} {vs : List Value} (hv : All2 (SC.rel C) row vs) (hlen : vs.length = m * i.size) (old : Nat) {k : Nat → SV} (hk : k = fun j => .sc (.slice j 0 m 0 true)) {Φ : Env → SV × Hp → Prop}
    (hx : (xnew hp row e i.size true k).holds Φ C.V) {s : Sem Value}
    (hrun : s.run P w = .ok (.slice (some ⟨w.heap.size, 0, none⟩) m (grownCap w m old e)) (w.drew.alloc (.cells (vs.toArray ++ Builtin.zeroCells zv.cells (grownCap w m old e - m)) e))) :
    ∃ C' w' v sv hp', s.run P w = .ok v w' ∧ sv.rel C' v ∧ HRel C' hp' w' ∧ Kp C w C' w' ∧ Φ C'.V (sv, hp') := by
  subst hk
  have hge := grownCap_ge w m old e
  obtain ⟨hp', m1, m2, m3, m4⟩ := xnew_ok h.drew hv (spare := (Builtin.zeroCells zv.cells (grownCap w m old e - m)).toList) (c := grownCap w m old e) (el := true) (fun e => nomatch e) (fun _ => by
    rw [List.length_append, hlen, grown_rest _ _ _ hsz, ← Nat.add_mul]; congr 1; omega) hx
  have ew : (w.drew.alloc (.cells (vs ++ (Builtin.zeroCells zv.cells (grownCap w m old e - m)).toList).toArray e)) = (w.drew.alloc (.cells (vs.toArray ++ Builtin.zeroCells zv.cells (grownCap w m old e - m)) e)) := by
    congr 2
    apply Array.ext'
    simp
  rw [ew] at m1 m2
  exact ⟨_, _, _, .sc (.slice hp.nx 0 m 0 true), hp', hrun, ⟨_, _, m3, by simp, fun _ => by simpa using hge⟩, m1, (Kp.drew C w).trans m2, by rw [env_add]; exact m4⟩
theorem xappend_ok (h : HRel C hp w) (sT xT ty : TypeId) {s x : SV} {us ux : Value} (hs : s.rel C us) (hx : x.rel C ux) : Out P C w (Builtin.append_ #[sT, xT] ty #[us, ux]) (xappend P sT xT s x hp) := by
  unfold xappend
  split
  case h_2 => exact Out.bad
  rename_i e ht
  split
  case h_2 => exact Out.bad
  rename_i i z hi hz
  split
  case isFalse => exact Out.bad
  rename_i hcond
  obtain ⟨hzl, hpos⟩ := hcond
  obtain ⟨zv, hzv, hsz⟩ : ∃ zv, i.zero = some zv ∧ zv.cells.size = i.size := by
    unfold xzero at hz
    rw [hi] at hz
    simp only at hz
    split at hz
    · rename_i zv hzv
      obtain ⟨zs, k1, k2⟩ := (ofValue_rel C hz).cells
      exact ⟨zv, hzv, by rw [k2]; have := k1.length; simp; omega⟩
    · cases hz
  split
  case h_2 => exact Out.bad
  rename_i n cs hn
  obtain ⟨hd, news, N⟩ := xnews_ok (w := w) h hn hx
  split
  · have e0 : us = .slice none 0 0 := hs
    subst e0
    split
    · rename_i h0
      subst h0
      exact Out.pure h (run_append_nil0 ht hi hd N.lenOf (N.first w rfl)) rfl
    · rename_i h0
      split
      · rename_i hb
        intro Φ hx'
        have hx' : (xnew hp cs e i.size true fun j => .sc (.slice j 0 n 0 true)).holds Φ C.V := by
          cases hbl : Nat.blt 256 n with
          | true => rw [hbl, cond_true] at hx'; exact xnewW_new (xnews_all h hn) hx'
          | false => rw [hbl, cond_false] at hx'; exact hx'
        refine new_row (P := P) (m := n) (old := 0) h hsz N.rel N.len rfl hx' ?_
        have hr := run_append_new (P := P) (w := w) (ty := ty) (base := none) (sLen := 0) (sCap := 0) (olds := []) (z := zv) ht hi hzv hd N.lenOf (fun w' _ => by simp [Builtin.firstCells]) N.first (by omega) (by omega) (growslice_fits (by omega) (by simpa using hb.1))
        simpa using hr
      · exact Out.bad
  · rename_i b o len cap
    split
    · rename_i hfit
      obtain ⟨g, c, hg, hv, _⟩ := hs
      simp only [Bool.false_eq_true, if_false] at hv
      subst hv
      intro Φ hx'
      rw [T.holds_bind] at hx'
      obtain ⟨C', w', hp', k1, k2, k3, k4⟩ := xput_ok (P := P) h hg (o := o + len * i.size) N.rel _ hx'
      refine ⟨C', w', _, .sc (.slice b o (len + n) cap false), hp', run_append_fit (P := P) (ty := ty) ht hi hd N.lenOf (N.first w rfl) hfit (by rw [Addr.add_lit]; exact k1), SV.rel_slice (k3.le.bl _ _ hg), k2, k3, k4⟩
    · rename_i hfit
      split
      · rename_i row T es el hb
        split
        · rename_i hc
          intro Φ hx'
          obtain ⟨olds, O⟩ := slice_news (P := P) h hb hc.1 hs
          have hs' := hs
          obtain ⟨g, c, hg, hv, _⟩ := hs'
          simp only [Bool.false_eq_true, if_false] at hv
          subst hv
          refine new_row (P := P) (m := len + n) (old := cap) h hsz (O.rel.append N.rel) (by rw [List.length_append, O.len, N.len, Nat.add_mul]) rfl hx' ?_
          have hr := run_append_new (P := P) (w := w) (ty := ty) (z := zv) ht hi hzv hd N.lenOf O.first N.first (by omega) (by omega) (growslice_fits (by omega) hc.2.1)
          rw [hr]
          congr 2
          simp
        · exact Out.bad
      · exact Out.bad
  · rename_i b len
    split
    · rename_i h0
      subst h0
      obtain ⟨g, c, hg, hv, hcl⟩ := hs
      have hcl := hcl rfl
      simp only [if_true] at hv
      subst hv
      have hnil : news = [] := List.eq_nil_of_length_eq_zero (by simpa using N.len)
      subst hnil
      refine Out.pure h (run_append_fit (P := P) (ty := ty) (w' := w) ht hi hd N.lenOf (N.first w rfl) (by omega) rfl) ⟨g, c, hg, by simp, fun _ => hcl⟩
    · rename_i h0
      split
      · rename_i row T es hb
        split
        · rename_i hc
          obtain ⟨c1, rfl, rfl, c4, c5, c6, c7⟩ := hc
          intro Φ hx'
          rw [scsK_eq, natK_eq, hputK_eq, natK_eq] at hx'
          have hs' := hs
          obtain ⟨g, c, hg, hv, hcl⟩ := hs'
          have hcl := hcl rfl
          simp only [if_true, Nat.sub_zero] at hv
          subst hv
          obtain ⟨g', c', k1, vs, sp, q1, q2, q3, q4, q5⟩ := h.at_ _ _ hb
          rw [hg] at k1; cases k1
          have q4 := q4 rfl
          have hl1 := q1.length
          have hall : (row ++ cs).all SC.ok = true := by rw [List.all_append, q5, c7]; rfl
          obtain ⟨olds, O⟩ := slice_news (P := P) (size := i.size) h hb (by omega) hs
          have heq : (row.drop 0).take (len * i.size) = row := by rw [List.drop_zero, List.take_of_length_le (by omega)]
          have Orel := O.rel
          rw [heq] at Orel
          by_cases hroom : len + n ≤ c
          · -- in place
            have hcells : (len + n) * i.size ≤ (vs ++ sp).length := by rw [← q4]; exact Nat.mul_le_mul_right _ hroom
            have hone : ∀ v ∈ news, v.oneCell' = true := fun v hm => by
              obtain ⟨k, hk⟩ := List.getElem?_of_mem hm
              obtain ⟨a, ha, hr⟩ := N.rel.getR k v hk
              exact hr.one (List.all_eq_true.1 c7 a (List.mem_of_getElem? ha))
            have hnl := N.len
            rw [Nat.add_mul] at hcells
            have hst := run_storeCells_at P g (len * i.size) T news 0 (vs ++ sp).toArray w q2 (by simp only [List.size_toArray]; omega) hone
            simp only [Nat.add_zero] at hst
            have hcur : (List.take (len * i.size) (vs ++ sp) ++ news ++ List.drop (len * i.size + news.length) (vs ++ sp)) = (vs ++ news) ++ sp.drop news.length := by
              have hvl : len * i.size = vs.length := by omega
              rw [hvl, List.take_left, List.drop_append]
              simp
            have hst2 : (storeCells ((⟨g, 0, none⟩ : Addr).add (len * i.size)) news).run P w = .ok () (w.setRow g ((vs ++ news) ++ sp.drop news.length).toArray) := by
              rw [Addr.add_lit, Nat.zero_add, hst]
              show Result.ok () (w.setRow g (List.take (len * i.size) (vs ++ sp) ++ news ++ List.drop (len * i.size + news.length) (vs ++ sp)).toArray) = _
              rw [hcur]
            have hrel : Blk.rel C c (w.setRow g ((vs ++ news) ++ sp.drop news.length).toArray).heap[g]? (.cells (row ++ cs) T i.size true) := by
              refine ⟨vs ++ news, sp.drop news.length, q1.append N.rel, setRow_heap w g _ _ T _ q2, (fun e => nomatch e), fun _ => ?_, hall⟩
              rw [q4]
              simp only [List.length_append, List.length_drop] at hcells ⊢
              omega
            obtain ⟨m1, m2⟩ := h.move hb rfl hg c6 (fun k hk => setRow_other w g k _ hk) (by simp) rfl rfl rfl hrel
            refine ⟨_, _, _, .sc (.slice hp.nx 0 (len + n) 0 true), _, run_append_fit (P := P) (ty := ty) ht hi hd N.lenOf (N.first w rfl) hroom hst2, ⟨g, c, by simp [Ctx.add], by simp, fun _ => by omega⟩, m1, m2, by rw [env_add]; exact hx'⟩
          · have hr := run_append_new (P := P) (w := w) (ty := ty) (z := zv) ht hi hzv hd N.lenOf O.first N.first hroom c5 (growslice_fits (by omega) c4)
            have hx2 : (xnew { hp with H := hdel hp.H b } (row ++ cs) T i.size true fun j => .sc (.slice j 0 (len + n) 0 true)).holds Φ C.V := by
              unfold xnew
              rw [if_pos ⟨c6, hall⟩, scsK_eq, natK_eq, hputK_eq, natK_eq]
              exact hx'
            refine new_row (P := P) (m := len + n) (old := c) (h.del b) hsz (Orel.append N.rel) (by rw [List.length_append, O.len, N.len, Nat.add_mul]) rfl hx2 ?_
            rw [hr]
            congr 2
            simp
        · exact Out.bad
      · exact Out.bad
  · exact Out.bad
end
end
end Go.Proofs.YtkogjjeoihnjpaaGreat.Sx
end
section
set_option linter.unusedVariables false
set_option linter.unusedSimpArgs false
namespace Go.Proofs.YtkogjjeoihnjpaaGreat.Sx
open Go
noncomputable section
section
variable {P : Program} {C : Ctx} {hp : Hp} {w : World}
def xsrcLen (x : SV) : Option Nat :=
  match x with
  | .pv (.one .nils) => some 0
  | .pv (.one (.slice _ _ len _ _)) => some len
  | .pv (.one (.str s)) => some s.size
  | _ => none
def xsrc (size n : Nat) (x : SV) (hs : Hs) : Option (List SC) :=
  match x with
  | .pv (.one .nils) => if n = 0 then some [] else none
  | .pv (.one (.slice b o len _ _)) =>
    match hget hs b with
    | some (.cells row _ _ _) => if o + n * size ≤ row.length then some ((row.drop o).take (n * size)) else none
    | _ => none
  | .pv (.one (.str s)) => if size = 1 ∧ n ≤ s.size then some ((s.data.toList.take n).map fun b => .int .u8 (.lit b.toNat)) else none
  | _ => none
theorem xsrcLen_ok {x : SV} {n : Nat} (h : xsrcLen x = some n) {v : Value} (hv : x.rel C v) (w : World) : (Builtin.lenOf v).run P w = .ok n w := by
  unfold xsrcLen at h
  split at h
  · cases h; have e : v = .slice none 0 0 := hv; subst e; rfl
  · cases h; obtain ⟨g, c, hg, rfl, _⟩ := hv; rfl
  · cases h; rename_i s; have e : v = .string s := hv; subst e; rfl
  · cases h
theorem xsrc_ok (h : HRel C hp w) {size n : Nat} {x : SV} {cs : List SC} (hx : xsrc size n x hp.H = some cs) {v : Value} (hv : x.rel C v) :
    ∃ news, All2 (SC.rel C) cs news ∧ (Builtin.firstCells size n v).run P w = .ok news.toArray w := by
  unfold xsrc at hx
  split at hx
  · split at hx
    · rename_i h0
      cases hx
      have e : v = .slice none 0 0 := hv
      subst e
      exact ⟨[], .nil, by simp [Builtin.firstCells]⟩
    · cases hx
  · rename_i b o len cap el
    split at hx
    · rename_i row T es q hb
      split at hx
      · rename_i hl
        cases hx
        obtain ⟨g, c, hg, hv, _⟩ := hv
        generalize (if el = true then c - cap else cap) = qq at hv
        subst hv
        obtain ⟨g', c', k1, vs, sp, h1, h2, _⟩ := h.at_ _ _ hb
        rw [hg] at k1; cases k1
        have hlen := h1.length
        refine ⟨(vs.drop o).take (n * size), (h1.drop o).take _, ?_⟩
        refine run_firstCells_some (P := P) w size n ⟨g, o, none⟩ len qq _ (by simp; omega) fun j v hj => ?_
        rw [List.getElem?_take] at hj
        split at hj
        · rw [List.getElem?_drop] at hj
          have hlt := (List.getElem?_eq_some_iff.1 hj).1
          simp only [Addr.add_lit, World.cell?, h2]
          simp [List.getElem?_append_left hlt, hj]
        · cases hj
      · cases hx
    · cases hx
  · rename_i s
    split at hx
    · rename_i hs
      cases hx
      have e : v = .string s := hv
      subst e
      refine ⟨(s.data.toList.take n).map (fun b => Value.int .u8 b.toNat), All2.of_map fun b _ => ⟨trivial, rfl⟩, ?_⟩
      simp only [Builtin.firstCells, Sem.run_pure]
      congr 1
      apply Array.ext'
      rw [Array.toList_map]
      simp [ByteArray.data_extract, List.extract_eq_take_drop]
    · cases hx
  · cases hx
def xcopy (P : Program) (dT : TypeId) (d x : SV) (hp : Hp) : XR :=
  match P.underlying dT, xsrcLen x with
  | some (.slice e), some sl =>
    match xsize P e, d with
    | some s, .pv (.one .nils) => match xsrc s 0 x hp.H with
      | some _ => .ret (.sc (.int .i64 (.lit 0)), hp)
      | none => .bad "copy"
    | some s, .pv (.one (.slice b o dl _ _)) =>
      match xsrc s (Nat.min sl dl) x hp.H with
      | some cs => (xput b o cs hp).bind fun r => .ret (.sc (.int .i64 (.lit (Nat.min sl dl : Nat))), r.2)
      | none => .bad "copy"
    | _, _ => .bad "copy"
  | _, _ => .bad "copy"
theorem xcopy_ok (h : HRel C hp w) (dT sT ty : TypeId) {d x : SV} {ud ux : Value} (hd : d.rel C ud) (hx : x.rel C ux) : Out P C w (Builtin.copy_ #[dT, sT] ty #[ud, ux]) (xcopy P dT d x hp) := by
  unfold xcopy
  split
  · rename_i e sl ht hsl
    have hlen := xsrcLen_ok (P := P) hsl hx
    split
    · rename_i s hs
      split
      · rename_i cs hcs
        have e0 : ud = .slice none 0 0 := hd
        subst e0
        obtain ⟨news, k1, k2⟩ := xsrc_ok (P := P) (w := w) h hcs hx
        refine Out.int h ?_ ⟨trivial, rfl⟩
        simp [Builtin.copy_, run_underlying ht, hlen, xsize_ok hs, k2, goInt, den_lit]
      · exact Out.bad
    · rename_i s b o dl cap el hs
      split
      · rename_i cs hcs
        obtain ⟨g, c, hg, hv, _⟩ := hd
        generalize (if el = true then c - cap else cap) = qq at hv
        subst hv
        obtain ⟨news, k1, k2⟩ := xsrc_ok (P := P) (w := w) h hcs hx
        intro Φ hx'
        rw [T.holds_bind] at hx'
        obtain ⟨C', w', hp', m1, m2, m3, m4⟩ := xput_ok (P := P) h hg (o := o) k1 _ hx'
        refine ⟨C', w', .int .i64 (Nat.min sl dl : Nat), .sc (.int .i64 (.lit (Nat.min sl dl : Nat))), hp', ?_, ⟨trivial, rfl⟩, m2, m3, m4⟩
        simp [Builtin.copy_, run_underlying ht, hlen, xsize_ok hs, k2, m1, goInt]
      · exact Out.bad
    · exact Out.bad
  · exact Out.bad
def xlen (P : Program) (t : TypeId) (x : SV) (hp : Hp) : XR :=
  match P.underlying t, x with
  | some .string, .pv (.one (.str s)) => .ret (.sc (.int .i64 (.lit s.size)), hp)
  | some (.array n _), _ => .ret (.sc (.int .i64 (.lit n)), hp)
  | some (.slice _), .pv (.one .nils) => .ret (.sc (.int .i64 (.lit 0)), hp)
  | some (.slice _), .pv (.one (.slice _ _ len _ _)) => .ret (.sc (.int .i64 (.lit len)), hp)
  | some (.slice _), .pv (.one (.xs _ n)) => .ret (.sc (.int .i64 n), hp)
  | some (.map _ _), .pv (.one .nilm) => .ret (.sc (.int .i64 (.lit 0)), hp)
  | some (.map _ _), .pv (.one (.map b)) => match hget hp.H b with
    | some (.mp es _) => .ret (.sc (.int .i64 (.lit es.length)), hp)
    | _ => .bad "len"
  | _, _ => .bad "len"
theorem xlen_ok (h : HRel C hp w) (t ty : TypeId) {x : SV} {v : Value} (hx : x.rel C v) : Out P C w (Builtin.len_ #[t] ty #[v]) (xlen P t x hp) := by
  unfold xlen
  split
  · rename_i s ht
    have e : v = .string s := hx
    subst e
    exact Out.int h (by simp [Builtin.len_, run_underlying ht, goInt]; rfl) ⟨trivial, rfl⟩
  · rename_i y n e ht
    refine Out.int h (n := n) ?_ ⟨trivial, rfl⟩
    simp only [Builtin.len_, List.getElem?_toArray, List.getElem?_cons_zero, Sem.run_bind, run_underlying ht, Result.andThen_ok]
    rfl
  · rename_i e ht
    have e : v = .slice none 0 0 := hx
    subst e
    exact Out.int h (by simp [Builtin.len_, run_underlying ht, goInt]; rfl) ⟨trivial, rfl⟩
  · rename_i e b o len cap el ht
    obtain ⟨g, c, hg, hv, _⟩ := hx
    generalize (if el = true then c - cap else cap) = qq at hv
    subst hv
    exact Out.int h (by simp [Builtin.len_, run_underlying ht, goInt]; rfl) ⟨trivial, rfl⟩
  · rename_i e i n ht
    obtain ⟨_, _, h3, a, m, c, rfl, h5⟩ := hx
    exact Out.int h (n := (m : Int)) (by simp [Builtin.len_, run_underlying ht, goInt]) ⟨h3, h5.symm⟩
  · rename_i k e ht
    have e : v = .map none := hx
    subst e
    exact Out.int h (by simp [Builtin.len_, run_underlying ht, goInt]; rfl) ⟨trivial, rfl⟩
  · rename_i k e b ht
    split
    · rename_i es cl hb
      obtain ⟨g, c, hg, rfl⟩ := hx
      obtain ⟨g', c', k1, ms, k2, k3⟩ := h.at_ _ _ hb
      rw [hg] at k1; cases k1
      refine Out.int h (n := (es.length : Int)) ?_ ⟨trivial, rfl⟩
      have : (getObj g).run P w = .ok (.map ms.toArray cl) w := by simp [getObj, Sem.run, k3]
      simp only [Builtin.len_, List.getElem?_toArray, List.getElem?_cons_zero, Sem.run_bind, run_underlying ht, Result.andThen_ok, this, k2.length]
      simp [goInt]
    · exact Out.bad
  · exact Out.bad
def xcap (P : Program) (t : TypeId) (x : SV) (hp : Hp) : XR :=
  match P.underlying t, x with
  | some (.array n _), _ => .ret (.sc (.int .i64 (.lit n)), hp)
  | some (.slice _), .pv (.one .nils) => .ret (.sc (.int .i64 (.lit 0)), hp)
  | some (.slice _), .pv (.one (.slice _ _ _ cap false)) => .ret (.sc (.int .i64 (.lit cap)), hp)
  | _, _ => .bad "cap"
theorem xcap_ok (h : HRel C hp w) (t ty : TypeId) {x : SV} {v : Value} (hx : x.rel C v) : Out P C w (Builtin.cap_ #[t] ty #[v]) (xcap P t x hp) := by
  unfold xcap
  split
  · rename_i y n e ht
    refine Out.int h (n := n) ?_ ⟨trivial, rfl⟩
    simp only [Builtin.cap_, List.getElem?_toArray, List.getElem?_cons_zero, Sem.run_bind, run_underlying ht, Result.andThen_ok]
    rfl
  · rename_i e ht
    have e : v = .slice none 0 0 := hx
    subst e
    exact Out.int h (by simp [Builtin.cap_, run_underlying ht, goInt]; rfl) ⟨trivial, rfl⟩
  · rename_i e b o len cap ht
    obtain ⟨g, c, hg, hv, _⟩ := hx
    simp only [Bool.false_eq_true, if_false] at hv
    subst hv
    exact Out.int h (by simp [Builtin.cap_, run_underlying ht, goInt]; rfl) ⟨trivial, rfl⟩
  · exact Out.bad
/-- the same test, or alike -/
def weakO : BinOp → BinOp
  | .gtr => .geq
  | .lss => .leq
  | op => op
/-- b, if it stands so to a; else a -/
def mmE (op : BinOp) (b a : E) : E :=
  match (E.cmp (weakO op) b a).known with
  | some true => b
  | _ => mkIteI (mkCmp op b a) b a
theorem mmE_ok (op : BinOp) {V : Env} {d : Nat → Prop} {a b : E} (hb : b.sc V d) (ha : a.sc V d) : (mmE op b a).sc V d ∧ (mmE op b a).den V = if cmpD op (b.den V) (a.den V) = true then b.den V else a.den V := by
  unfold mmE
  split
  · rename_i hk
    have h1 := E.known_ok (c := .cmp (weakO op) b a) (show _ ∧ _ from ⟨hb, ha⟩) hk
    rw [tr_cmp] at h1
    refine ⟨hb, ?_⟩
    split
    · rfl
    · rename_i hn
      cases op <;> simp only [weakO, cmpD, decide_eq_true_eq, beq_iff_eq, bne_iff_ne, ne_eq, Bool.false_eq_true, Int.not_lt, gt_iff_lt, ge_iff_le] at h1 hn <;> first | omega | exact absurd h1 hn
  · obtain ⟨c1, c2⟩ := mkCmp_ok op hb ha
    obtain ⟨i1, i2⟩ := mkIteI_ok c1 hb ha
    exact ⟨i1, by rw [i2, c2]⟩
/-- min and max of ints -/
def xmm (op : BinOp) (x : SV) : List SV → Option SV
  | [] => some x
  | y :: ys => match x, y with
    | .pv (.one (.int k a)), .pv (.one (.int _ b)) => xmm op (.sc (.int k (mmE op b a))) ys
    | _, _ => none
theorem xmm_ok {op : BinOp} {f : Value → Value → Sem Value} (hf : ∀ k k' a b, f (.int k a) (.int k' b) = pure (.int k (if cmpD op b a = true then b else a))) : ∀ {ys : List SV} {x r : SV} {u : Value} {vs : List Value}, xmm op x ys = some r → x.rel C u → All2 (SV.rel C) ys vs →
    ∃ v, (∀ w : World, (vs.foldlM f u).run P w = .ok v w) ∧ r.rel C v
  | [], x, r, u, vs, h, hx, hv => by cases hv; cases h; exact ⟨u, fun w => rfl, hx⟩
  | y :: ys, x, r, u, vs, h, hx, hv => by
    cases hv with
    | cons h1 h2 =>
      simp only [xmm] at h
      split at h
      · rename_i k a k' b
        obtain ⟨s1, rfl⟩ := hx
        obtain ⟨s2, rfl⟩ := h1
        obtain ⟨i1, i2⟩ := mmE_ok op s2 s1
        obtain ⟨v, k1, k2⟩ := xmm_ok hf (x := .sc (.int k (mmE op b a))) (u := .int k (if cmpD op (b.den C.V) (a.den C.V) = true then b.den C.V else a.den C.V)) h ⟨i1, by rw [i2]⟩ h2
        refine ⟨v, fun w => ?_, k2⟩
        rw [List.foldlM_cons, hf]
        simpa using k1 w
      · cases h
def xmin (xs : List SV) (hp : Hp) : XR :=
  match xs with
  | x :: xs => match xmm .lss x xs with
    | some r => .ret (r, hp)
    | none => .bad "min"
  | [] => .bad "min"
def xmax (xs : List SV) (hp : Hp) : XR :=
  match xs with
  | x :: xs => match xmm .gtr x xs with
    | some r => .ret (r, hp)
    | none => .bad "max"
  | [] => .bad "max"
theorem xmin_ok (h : HRel C hp w) (a : Array TypeId) (ty : TypeId) {xs : List SV} {vs : List Value} (hx : All2 (SV.rel C) xs vs) : Out P C w (Builtin.min_ a ty vs.toArray) (xmin xs hp) := by
  unfold xmin
  split
  · rename_i x xs
    cases hx with
    | @cons _ u _ us h1 h2 =>
      split
      · rename_i r hr
        obtain ⟨v, k1, k2⟩ := xmm_ok (P := P) (f := Builtin.min2) (fun k k' a b => by simp [Builtin.min2, cmpD]) hr h1 h2
        exact Out.pure h (v := v) (k1 w) k2
      · exact Out.bad
  · exact Out.bad
theorem xmax_ok (h : HRel C hp w) (a : Array TypeId) (ty : TypeId) {xs : List SV} {vs : List Value} (hx : All2 (SV.rel C) xs vs) : Out P C w (Builtin.max_ a ty vs.toArray) (xmax xs hp) := by
  unfold xmax
  split
  · rename_i x xs
    cases hx with
    | @cons _ u _ us h1 h2 =>
      split
      · rename_i r hr
        obtain ⟨v, k1, k2⟩ := xmm_ok (P := P) (f := Builtin.max2) (fun k k' a b => by simp [Builtin.max2, cmpD]) hr h1 h2
        exact Out.pure h (v := v) (k1 w) k2
      · exact Out.bad
  · exact Out.bad
/-! ### maps whose keys are numbers or texts of the text -/
def xnewMap (hp : Hp) : XR :=
  if hp.can then .ret (.sc (.map hp.nx), { hp with H := hput hp.H hp.nx (.mp [] 0), nx := hp.nx + 1 }) else .bad "makeMap"
theorem xnewMap_ok (h : HRel C hp w) (t : TypeId) {r : Option SV} {ur : Option Value} (hr : r = none ∧ ur = none) : Out P C w (Instr.makeMap t ur) (xnewMap hp) := by
  obtain ⟨rfl, rfl⟩ := hr
  intro Φ hx
  unfold xnewMap at hx
  split at hx
  · rename_i hc
    obtain ⟨k1, k2⟩ := h.push (c := 0) (blk := .mp [] 0) (o := .map #[] 0) hc ⟨[], .nil, rfl⟩
    exact ⟨_, _, .map (some w.heap.size), .sc (.map hp.nx), _, rfl, ⟨w.heap.size, 0, by simp [Ctx.add], rfl⟩, k1, k2, by rw [env_add]; exact hx⟩
  · exact hx.elim
/-- range over a map -/
def xrange (P : Program) (t : TypeId) (x : SV) (hp : Hp) : XR :=
  match P.underlying t, x with
  | some (.map _ _), .pv (.one (.map b)) => match hget hp.H b with
    | some (.mp _ clock) => if hp.can then .ret (.sc (.ptr hp.nx 0), { hp with H := hput hp.H hp.nx (.mit b clock none), nx := hp.nx + 1 }) else .bad "range number"
    | _ => .bad "range map"
  | _, _ => .bad "range"
theorem xrange_ok (h : HRel C hp w) (t : TypeId) {x : SV} {v : Value} (hx : x.rel C v) : Out P C w (Instr.range t v) (xrange P t x hp) := by
  unfold xrange
  split
  · rename_i b ht
    split
    · rename_i ents clock hb
      obtain ⟨g, c, hg, rfl⟩ := hx
      obtain ⟨g', c', m1, es, m2, m3⟩ := h.at_ _ _ hb
      rw [hg] at m1; cases m1
      split
      · rename_i hc
        intro Φ hx
        have hle := Ctx.le_add (g := w.heap.size) (c := 0) (h.free hp.nx (Hp.can_free hc)).1
        obtain ⟨k1, k2⟩ := h.push (c := 0) (blk := .mit b clock none) (o := .mapIter (some g) clock #[] clock) hc ⟨g, c, #[], hle.bl _ _ hg, rfl, fun _ => rfl, fun _ e => nomatch e⟩
        refine ⟨_, _, .pointer (some ⟨w.heap.size, 0, none⟩), .sc (.ptr hp.nx 0), _, ?_, ⟨w.heap.size, 0, by simp [Ctx.add], rfl⟩, k1, k2, by rw [env_add]; exact hx⟩
        simp only [Instr.range, Sem.run_bind, run_underlying ht, Result.andThen_ok, getObj, Sem.run, m3]
        rfl
      · exact Out.bad
    · exact Out.bad
  · exact Out.bad
/-- the entry that has come -/
def xentry (it : SV) (hp : Hp) : XR :=
  match it with
  | .pv (.one (.ptr b 0)) => match hget hp.H b with
    | some (.mit m since (some born)) => match hget hp.H m with
      | some (.mp ents clock) =>
        if clock = since ∧ (ents.map Ent.born).Nodup then match ents.find? (fun e => e.born == born) with
          | some e => .ret (.tup [e.key, e.val], hp)
          | none => .bad "entry gone"
        else .bad "entry turned"
      | _ => .bad "entry map"
    | _ => .bad "entry iterator"
  | _ => .bad "entry"
theorem ents_born {C : Ctx} {es : List Ent} {ms : List MapEntry} (h : All2 (Ent.rel C) es ms) : ms.map (·.born) = es.map Ent.born := by
  induction h with
  | nil => rfl
  | cons a b ih => rw [List.map_cons, List.map_cons, ih, a.2.2]
theorem xentry_ok (h : HRel C hp w) {it : SV} {v : Value} (hx : it.rel C v) : Out P C w (Instr.entry v) (xentry it hp) := by
  unfold xentry
  split
  · rename_i b
    split
    · rename_i m since born hb
      split
      · rename_i ents clock hm
        split
        · rename_i hc
          split
          · rename_i e he
            obtain ⟨g, c, hg, rfl⟩ := hx
            obtain ⟨g', c', q1, gm, c0, seen, q2, q3, _, q4⟩ := h.at_ _ _ hb
            rw [hg] at q1; cases q1
            obtain ⟨s, rfl⟩ := q4 born rfl
            obtain ⟨g2, c2, r1, es, r2, r3⟩ := h.at_ _ _ hm
            rw [q2] at r1; cases r1
            obtain ⟨hc1, hc2⟩ := hc
            subst hc1
            obtain ⟨i, hi⟩ := List.mem_iff_getElem?.1 (List.mem_of_find?_eq_some he)
            obtain ⟨me, l1, l2⟩ := r2.get i e hi
            have hbo : e.born = born := by simpa using List.find?_some he
            have hrun := run_entry_at (P := P) w g gm clock s es.toArray clock me (by rw [l2.2.2, hbo]; exact q3) r3 (by simpa using List.mem_of_getElem? l1) (by
              have := ents_born r2
              simp only [List.toList_toArray]
              rw [this]; exact hc2)
            exact Out.pure h hrun ⟨[me.key, me.val], .cons l2.1 (.cons l2.2.1 .nil), rfl⟩
          · exact Out.bad
        · exact Out.bad
      · exact Out.bad
    · exact Out.bad
  · exact Out.bad
theorem ba_beq {a b : ByteArray} (h : (a == b) = true) : a = b := by
  rw [beq_toListBytes] at h
  have := eq_of_beq h
  rw [ByteArray.toList_eq, ByteArray.toList_eq] at this
  rw [ByteArray.ext_iff]
  exact Array.ext' this
theorem ba_self (a : ByteArray) : (a == a) = true := by rw [beq_toListBytes]; simp
theorem none_hrel' (C : Ctx) (w : World) : HCore C [] w := ⟨fun b blk h => by simp [hget] at h, fun b b' blk blk' g c c' h => by simp [hget] at h⟩
/-- are two keys alike, told by the text -/
def xsame (t : TypeDesc) (x y : SC) : Option Bool :=
  match t, x, y with
  | .int _, .int k (.lit a), .int k' (.lit b) => if k = k' then some (a == b) else none
  | .string, .str a, .str b => some (a == b)
  | _, _, _ => none
def xsameK (t : TypeDesc) (x : SC) (y : PV) : Option Bool :=
  match y with
  | .one y => xsame t x y
  | _ => none
def xfind (t : TypeDesc) (x : SC) : List Ent → Nat → Option (Option (Nat × PV))
  | [], _ => some none
  | e :: es, i => match xsameK t x e.key with
    | some true => some (some (i, e.val))
    | some false => xfind t x es (i + 1)
    | none => none
theorem xsame_ok {t : TypeDesc} {x y : SC} {b : Bool} (h : xsame t x y = some b) {u v : Value} (hu : x.rel C u) (hv : y.rel C v) : Instr.sameNow t u v = some b := by
  unfold xsame at h
  split at h
  · split at h
    · rename_i hk
      subst hk
      cases h
      obtain ⟨_, rfl⟩ := hu
      obtain ⟨_, rfl⟩ := hv
      simp [Instr.sameNow, den_lit]
    · cases h
  · cases h
    simp only [SC.rel] at hu hv
    subst hu; subst hv
    rfl
  · cases h
theorem xsameK_ok {t : TypeDesc} {x : SC} {y : PV} {b : Bool} (h : xsameK t x y = some b) {u v : Value} (hu : x.rel C u) (hv : y.rel C v) : Instr.sameNow t u v = some b := by
  unfold xsameK at h
  split at h
  · exact xsame_ok h hu hv
  · cases h
theorem xfind_ok {t : TypeDesc} {x : SC} {u : Value} (hu : x.rel C u) : ∀ {es : List Ent} {ms : List MapEntry} {i : Nat} {r : Option (Nat × PV)}, xfind t x es i = some r → All2 (Ent.rel C) es ms →
    match r with
    | none => Instr.findNow t u ms i = some none
    | some (j, p) => ∃ v m, Instr.findNow t u ms i = some (some (j, v)) ∧ p.rel C v ∧ i ≤ j ∧ ms[j - i]? = some m ∧ (∃ en, es[j - i]? = some en ∧ xsameK t x en.key = some true)
  | [], ms, i, r, h, hm => by cases hm; cases h; rfl
  | e :: es, ms, i, r, h, hm => by
    cases hm with
    | @cons _ m _ ms h1 h2 =>
      unfold xfind at h
      split at h
      · rename_i hs
        cases h
        refine ⟨m.val, m, ?_, h1.2.1, Nat.le_refl _, by simp, e, by simp, hs⟩
        simp only [Instr.findNow, xsameK_ok hs hu h1.1]
      · rename_i hs
        have ih := xfind_ok hu h h2
        have e0 := xsameK_ok hs hu h1.1
        cases r with
        | none => simp only at ih ⊢; simp only [Instr.findNow, e0, ih]
        | some q =>
          obtain ⟨j, p⟩ := q
          simp only at ih ⊢
          obtain ⟨v, m', k1, k2, k3, k4, en, k5, k6⟩ := ih
          have e1 : j - i = (j - (i + 1)) + 1 := by omega
          refine ⟨v, m', ?_, k2, by omega, by rw [e1]; simpa using k4, en, by rw [e1]; simpa using k5, k6⟩
          simp only [Instr.findNow, e0, k1]
      · cases h
def keyOk (t : TypeDesc) : Bool := match t with | .int _ => true | .string => true | _ => false
theorem run_checkKey {t : TypeId} {d : TypeDesc} (ht : P.underlying t = some d) (hd : keyOk d = true) (b : Bool) (n : Nat) (v : Value) (w : World) : (Instr.checkKey b (n + 1) t v).run P w = .ok () w := by
  simp only [Instr.checkKey, Sem.run_bind, run_underlying ht, Result.andThen_ok]
  cases d <;> simp [keyOk] at hd <;> rfl
/-- a struct of such, too -/
def keyOkP (P : Program) (d : TypeDesc) (x : PV) : Bool :=
  match d, x with
  | .struct fs, .agg cs => fs.toList.all fun f => match P.underlying f.type, xread P f.type cs f.offset with
    | some d', some _ => keyOk d'
    | _, _ => false
  | d, _ => keyOk d
theorem run_checkKeyP {t : TypeId} {d : TypeDesc} (ht : P.underlying t = some d) {x : PV} (hd : keyOkP P d x = true) {u : Value} (hu : x.rel C u) (b : Bool) (n : Nat) (w : World) : (Instr.checkKey b (n + 2) t u).run P w = .ok () w := by
  unfold keyOkP at hd
  split at hd
  · rename_i fs cs
    obtain ⟨vs, hv, rfl⟩ := hu
    rw [show n + 2 = (n + 1) + 1 from rfl, Instr.checkKey]
    simp only [Sem.run_bind, run_underlying ht, Result.andThen_ok]
    rw [← Array.forIn_toList]
    rw [List.all_eq_true] at hd
    generalize fs.toList = l at hd
    induction l with
    | nil => rfl
    | cons f l ih =>
      have hf := hd f List.mem_cons_self
      split at hf
      · rename_i d' p hd' hp
        obtain ⟨v, h1, h2⟩ := xpart_ok hp hv
        have hc := run_checkKey hd' hf b n v w
        rw [List.forIn_cons]
        have ih := ih fun g hg => hd g (List.mem_cons_of_mem _ hg)
        by_cases hname : f.name = "_"
        · simp only [hname, ne_eq, not_true_eq_false, if_false, Sem.run_bind, Sem.run_pure, Result.andThen_ok]
          exact ih
        · simp only [ne_eq, hname, not_false_eq_true, if_true, Sem.run_bind, Sem.run_pure, Result.andThen_ok, h1, hc]
          exact ih
      · cases hf
  · exact run_checkKey ht hd b (n + 1) u w
/-- a struct that is sought -/
def xfindA (P : Program) (kt : TypeId) (x : PV) : List Ent → Nat → Option (Option (Nat × PV))
  | [], _ => some none
  | e :: es, i => match e.key with
    | .agg _ => match xeqP P [] 64 kt x e.key with
      | some (.tt true) => some (some (i, e.val))
      | some (.tt false) => xfindA P kt x es (i + 1)
      | _ => none
    | _ => none
theorem xfindA_ok {kt : TypeId} {x : PV} {u : Value} (hu : x.rel C u) : ∀ {es : List Ent} {ms : List MapEntry} {i : Nat} {r : Option (Nat × PV)}, xfindA P kt x es i = some r → All2 (Ent.rel C) es ms →
    match r with
    | none => ∀ w, (Instr.findAsking kt u ms i).run P w = .ok none w
    | some (j, p) => ∃ v, (∀ w, (Instr.findAsking kt u ms i).run P w = .ok (some (j, v)) w) ∧ p.rel C v
  | [], ms, i, r, h, hm => by cases hm; cases h; exact fun w => rfl
  | e :: es, ms, i, r, h, hm => by
    cases hm with
    | @cons _ m _ ms h1 h2 =>
      unfold xfindA at h
      split at h
      · split at h
        · rename_i he
          cases h
          refine ⟨m.val, fun w => ?_, h1.2.1⟩
          have kk := xeqP_ok (w := w) (none_hrel' C w) 64 he hu h1.1 10000 (by decide)
          simp only [Instr.findAsking, Sem.run_bind, Op.equal, Op.maxDepth, kk.2, Result.andThen_ok, tr_tt, if_true, Sem.run_pure]
        · rename_i he
          have ih := xfindA_ok hu h h2
          have step : ∀ w, (Instr.findAsking kt u (m :: ms) i).run P w = (Instr.findAsking kt u ms (i + 1)).run P w := fun w => by
            have kk := xeqP_ok (w := w) (none_hrel' C w) 64 he hu h1.1 10000 (by decide)
            simp only [Instr.findAsking, Sem.run_bind, Op.equal, Op.maxDepth, kk.2, Result.andThen_ok, tr_tt, Bool.false_eq_true, if_false]
          cases r with
          | none => intro w; rw [step]; exact ih w
          | some q =>
            obtain ⟨j, p⟩ := q
            obtain ⟨v, k1, k2⟩ := ih
            exact ⟨v, fun w => by rw [step]; exact k1 w, k2⟩
        · cases h
      · cases h
def xfindK (P : Program) (kt : TypeId) (kd : TypeDesc) (x : PV) (es : List Ent) : Option (Option (Nat × PV)) :=
  match x with
  | .one kc => xfind kd kc es 0
  | .agg cs => xfindA P kt (.agg cs) es 0
theorem run_findKey' {t : TypeId} {d : TypeDesc} (ht : P.underlying t = some d) {k : Value} {es : List MapEntry} {r : Option (Nat × Value)} (h : Instr.findNow d k es 0 = some r) (w : World) : (Instr.findKey t k es).run P w = .ok r w := by
  simp only [Instr.findKey, Sem.run_bind, run_underlying ht, Result.andThen_ok, h]
  rfl
theorem xfindK_ok {kt : TypeId} {kd : TypeDesc} (hkd : P.underlying kt = some kd) {x : PV} {u : Value} (hu : x.rel C u) {es : List Ent} {ms : List MapEntry} {r : Option (Nat × PV)} (h : xfindK P kt kd x es = some r) (hm : All2 (Ent.rel C) es ms) :
    match r with
    | none => ∀ w, (Instr.findKey kt u ms).run P w = .ok none w
    | some (j, p) => ∃ v, (∀ w, (Instr.findKey kt u ms).run P w = .ok (some (j, v)) w) ∧ p.rel C v := by
  unfold xfindK at h
  split at h
  · rename_i kc
    have hf := xfind_ok (C := C) hu h hm
    cases r with
    | none => exact fun w => run_findKey' hkd hf w
    | some q =>
      obtain ⟨j, p⟩ := q
      obtain ⟨v, m, f1, f2, _⟩ := hf
      exact ⟨v, fun w => run_findKey' hkd f1 w, f2⟩
  · rename_i cs
    have hf := xfindA_ok (P := P) hu h hm
    obtain ⟨vs, _, rfl⟩ := hu
    have asks : ∀ w, (Instr.findKey kt (.agg vs.toArray) ms).run P w = (Instr.findAsking kt (.agg vs.toArray) ms 0).run P w := fun w => by
      cases ms with
      | nil => simp only [Instr.findKey, Sem.run_bind, run_underlying hkd, Result.andThen_ok, Instr.findNow]; rfl
      | cons m ms =>
        have : Instr.findNow kd (.agg vs.toArray) (m :: ms) 0 = none := by
          simp only [Instr.findNow]
          have : Instr.sameNow kd (.agg vs.toArray) m.key = none := by cases kd <;> rfl
          rw [this]
        simp only [Instr.findKey, Sem.run_bind, run_underlying hkd, Result.andThen_ok, this]
    cases r with
    | none => intro w; rw [asks]; exact hf w
    | some q =>
      obtain ⟨j, p⟩ := q
      obtain ⟨v, k1, k2⟩ := hf
      exact ⟨v, fun w => by rw [asks]; exact k1 w, k2⟩
def xtold (ok : Bool) (z : PV) (hp : Hp) (r : Option (Nat × PV)) : XR :=
  if ok then .ret (.tup [match r with | some (_, p) => p | none => z, .one (.bool (.tt r.isSome))], hp) else .ret (.pv (match r with | some (_, p) => p | none => z), hp)
def xlookup (P : Program) (t : TypeId) (m k : SV) (ok : Bool) (hp : Hp) : XR :=
  match P.underlying t, k with
  | some (.map kt et), .pv kc =>
    match P.underlying kt, xzero P et with
    | some kd, some z =>
      if keyOkP P kd kc then
        match m with
        | .pv (.one .nilm) => xtold ok z hp none
        | .pv (.one (.map b)) => match hget hp.H b with
          | some (.mp es _) => match xfindK P kt kd kc es with
            | some r => xtold ok z hp r
            | none => .bad "lookup key"
          | _ => .bad "lookup"
        | _ => .bad "lookup"
      else .bad "lookup keys"
    | _, _ => .bad "lookup"
  | _, _ => .bad "lookup"
theorem run_findKey {t : TypeId} {d : TypeDesc} (ht : P.underlying t = some d) {k : Value} {es : List MapEntry} {r : Option (Nat × Value)} (h : Instr.findNow d k es 0 = some r) (w : World) : (Instr.findKey t k es).run P w = .ok r w := by
  simp only [Instr.findKey, Sem.run_bind, run_underlying ht, Result.andThen_ok, h]
  rfl
theorem run_getObj_map {g : Nat} {es : List MapEntry} {cl : Nat} (h : w.heap[g]? = some (.map es.toArray cl)) : (getObj g).run P w = .ok (.map es.toArray cl) w := by simp [getObj, Sem.run, h]
theorem xlookup_ok (h : HRel C hp w) (t : TypeId) {m k : SV} {um uk : Value} (ok : Bool) (hm : m.rel C um) (hk : k.rel C uk) : Out P C w (Instr.lookup t um uk ok) (xlookup P t m k ok hp) := by
  unfold xlookup
  split
  · rename_i kt et kc ht
    split
    · rename_i kd z hkd hz
      split
      · rename_i hko
        obtain ⟨zv, z1, z2⟩ := xzero_ok hz C
        have fin : ∀ (v : Value) (p : PV) (b : Bool), p.rel C v → Out P C w (pure (if ok then .tuple #[v, .bool b] else v) : Sem Value) (if ok then .ret (.tup [p, .one (.bool (.tt b))], hp) else .ret (.pv p, hp)) := fun v p b hv => by
          cases ok
          · exact Out.pure h (v := v) rfl hv
          · exact Out.pure h (v := .tuple #[v, .bool b]) rfl ⟨[v, .bool b], .cons hv (.cons ⟨trivial, rfl⟩ .nil), rfl⟩
        split
        · have e : um = .map none := hm
          subst e
          have := fin zv z false z2
          intro Φ hx
          obtain ⟨C', w', v, sv, hp', k1, k2⟩ := this Φ hx
          refine ⟨C', w', v, sv, hp', ?_, k2⟩
          simp only [Instr.lookup, Sem.run_bind, run_underlying ht, Result.andThen_ok, Sem.run_pure, run_checkKeyP hkd hko hk]
          rw [run_findKey hkd (r := none) rfl]
          simp only [Result.andThen_ok, Sem.run_bind, z1, Sem.run_pure]
          exact k1
        · rename_i b
          split
          · rename_i es cl hb
            split
            · rename_i r hr
              obtain ⟨g, c, hg, rfl⟩ := hm
              obtain ⟨g', c', k1, ms, k2, k3⟩ := h.at_ _ _ hb
              rw [hg] at k1; cases k1
              have hf := xfindK_ok (C := C) hkd hk hr k2
              cases r with
              | none =>
                simp only at hf
                intro Φ hx
                obtain ⟨C', w', v, sv, hp', k1, k2⟩ := fin zv z false z2 Φ hx
                refine ⟨C', w', v, sv, hp', ?_, k2⟩
                simp only [Instr.lookup, Sem.run_bind, run_underlying ht, Result.andThen_ok, Sem.run_pure, run_checkKeyP hkd hko hk, run_getObj_map k3, List.toList_toArray]
                rw [hf w]
                simp only [Result.andThen_ok, Sem.run_bind, z1, Sem.run_pure]
                exact k1
              | some q =>
                obtain ⟨j, p⟩ := q
                simp only at hf
                obtain ⟨v, f1, f2⟩ := hf
                intro Φ hx
                obtain ⟨C', w', v', sv, hp', k1, k2⟩ := fin v p true f2 Φ hx
                refine ⟨C', w', v', sv, hp', ?_, k2⟩
                simp only [Instr.lookup, Sem.run_bind, run_underlying ht, Result.andThen_ok, Sem.run_pure, run_checkKeyP hkd hko hk, run_getObj_map k3, List.toList_toArray]
                rw [f1 w]
                simp only [Result.andThen_ok, Sem.run_bind, Sem.run_pure]
                exact k1
            · exact Out.bad
          · exact Out.bad
        · exact Out.bad
      · exact Out.bad
    · exact Out.bad
  · exact Out.bad
def xupd (P : Program) (t : TypeId) (m k v : SV) (hp : Hp) : XR :=
  match P.underlying t, m, k, v with
  | some (.map kt _), .pv (.one (.map b)), .pv kc, .pv p =>
    match P.underlying kt, hget hp.H b with
    | some kd, some (.mp es cl) =>
      if keyOkP P kd kc then
        match xfindK P kt kd kc es with
        | some none => .ret (SV.undef, { hp with H := hset hp.H b (.mp (es ++ [⟨kc, p, cl⟩]) (cl + 1)) })
        | some (some (i, _)) => match kc, es[i]? with
          | .one _, some en => .ret (SV.undef, { hp with H := hset hp.H b (.mp (es.set i ⟨kc, p, en.born⟩) cl) })
          | _, _ => .bad "mapUpdate"
        | none => .bad "mapUpdate key"
      else .bad "mapUpdate keys"
    | _, _ => .bad "mapUpdate"
  | _, _, _, _ => .bad "mapUpdate"
theorem same_bits {t : TypeDesc} {x y : SC} (h : xsame t x y = some true) {u v : Value} (hu : x.rel C u) (hv : y.rel C v) : u = v := by
  unfold xsame at h
  split at h
  · split at h
    · rename_i hk
      subst hk
      simp only [Option.some.injEq, beq_iff_eq] at h
      obtain ⟨_, rfl⟩ := hu
      obtain ⟨_, rfl⟩ := hv
      simp [den_lit, h]
    · cases h
  · simp only [Option.some.injEq] at h
    simp only [SC.rel] at hu hv
    subst hu; subst hv; rw [ba_beq h]
  · cases h
theorem sameBits_self (n : Nat) {t : TypeDesc} {x y : SC} (h : xsame t x y = some true) {u : Value} (hu : x.rel C u) : Instr.sameBits (n + 1) u u = true := by
  unfold xsame at h
  split at h
  · obtain ⟨_, rfl⟩ := hu; simp [Instr.sameBits]
  · simp only [SC.rel] at hu; subst hu; simp only [Instr.sameBits]; exact ba_self _
  · cases h
theorem xupd_ok (h : HRel C hp w) (t : TypeId) {m k v : SV} {um uk uv : Value} (hm : m.rel C um) (hk : k.rel C uk) (hv : v.rel C uv) : OutU P C w (Instr.mapUpdate t um uk uv) (xupd P t m k v hp) := by
  unfold xupd
  split
  · rename_i kt et b kc p ht
    split
    · rename_i kd es cl hkd hb
      split
      · rename_i hko
        obtain ⟨g, c, hg, rfl⟩ := hm
        obtain ⟨g', c', k1, ms, k2, k3⟩ := h.at_ _ _ hb
        rw [hg] at k1; cases k1
        have hlt := (Array.getElem?_eq_some_iff.1 k3).1
        have hk' : kc.rel C uk := hk
        have hv' : p.rel C uv := hv
        have set_ok : ∀ o : Obj, (setObj g o).run P w = .ok () { w with heap := w.heap.setIfInBounds g o } := fun o => by simp [setObj, Sem.run, k3]
        have goes : ∀ (blk : Blk) (o : Obj), blk.rel C c (some o) → HRel C { hp with H := hset hp.H b blk } { w with heap := w.heap.setIfInBounds g o } ∧ Kp C w C { w with heap := w.heap.setIfInBounds g o } := fun blk o ho =>
          h.turn hb rfl hg (fun q hq => by simp [Array.getElem?_setIfInBounds_ne (Ne.symm hq)]) (by simp) rfl rfl rfl (by simpa [Array.getElem?_setIfInBounds_self, hlt] using ho)
        split
        · rename_i hf
          have hf' := xfindK_ok (C := C) hkd hk' hf k2
          simp only at hf'
          intro Φ hx
          obtain ⟨q1, q2⟩ := goes (.mp (es ++ [⟨kc, p, cl⟩]) (cl + 1)) (.map ((ms ++ [({ key := uk, val := uv, born := cl } : MapEntry)]).toArray) (cl + 1)) ⟨ms ++ [({ key := uk, val := uv, born := cl } : MapEntry)], k2.append (.cons (show Ent.rel C ⟨kc, p, cl⟩ { key := uk, val := uv, born := cl } from ⟨hk', hv', rfl⟩) .nil), rfl⟩
          refine ⟨C, _, _, ?_, q1, q2, hx⟩
          simp only [Instr.mapUpdate, Sem.run_bind, run_underlying ht, Result.andThen_ok, run_getObj_map k3, run_checkKeyP hkd hko hk', List.toList_toArray]
          rw [hf' w]
          simp only [Result.andThen_ok, List.push_toArray]
          exact set_ok _
        · rename_i i p' hf
          cases kc with
          | agg cs => exact OutU.bad
          | one kx =>
          have hf' := xfind_ok (C := C) hk' hf k2
          simp only at hf'
          obtain ⟨v', m', f1, f2, f3, f4, en, f5, f6⟩ := hf'
          rw [Nat.sub_zero] at f4 f5
          rw [f5]
          simp only
          obtain ⟨m2, g1, g2⟩ := k2.get _ _ f5
          rw [f4] at g1; cases g1
          have hkey : uk = m'.key := by
            unfold xsameK at f6
            have g21 := g2.1
            split at f6
            · rename_i y hy
              rw [hy] at g21
              exact same_bits f6 hk' g21
            · cases f6
          intro Φ hx
          obtain ⟨q1, q2⟩ := goes (.mp (es.set i ⟨.one kx, p, en.born⟩) cl) (.map ((ms.set i { key := uk, val := uv, born := en.born }).toArray) cl) ⟨_, k2.set i (a := ⟨.one kx, p, en.born⟩) (b := { key := uk, val := uv, born := en.born }) ⟨hk, hv, rfl⟩, rfl⟩
          refine ⟨C, _, _, ?_, q1, q2, hx⟩
          simp only [Instr.mapUpdate, Sem.run_bind, run_underlying ht, Result.andThen_ok, run_getObj_map k3, run_checkKeyP hkd hko hk', List.toList_toArray]
          rw [run_findKey hkd f1]
          have hks : (Instr.keyThatStays (((ms.toArray[i]?).map (·.key)).getD uk) uk).run P w = .ok uk w := by
            simp [f4, Instr.keyThatStays, ← hkey, show Instr.sameBits 10000 uk uk = true from by
              unfold xsameK at f6
              split at f6
              · exact sameBits_self 9999 f6 hk'
              · cases f6]
          simp only [Result.andThen_ok, Sem.run_bind, hks]
          have hmod : (ms.toArray.modify i fun e => { e with key := uk, val := uv }) = (ms.set i { key := uk, val := uv, born := en.born }).toArray := by
            apply Array.ext'
            simp only [Array.toList_modify]
            apply List.ext_getElem?
            intro j
            by_cases hj : i = j
            · subst hj
              obtain ⟨hil, hme⟩ := List.getElem?_eq_some_iff.1 f4
              simp [hil, hme, g2.2.2]
            · simp [List.getElem?_set_ne hj, List.getElem?_modify, hj]
          rw [hmod]
          exact set_ok _
        · exact OutU.bad
      · exact OutU.bad
    · exact OutU.bad
  · exact OutU.bad
/-- an entry goes -/
def xdelete (P : Program) (t : TypeId) (m k : SV) (hp : Hp) : XR :=
  match P.underlying t, m, k with
  | some (.map kt _), .pv (.one (.map b)), .pv kc =>
    match P.underlying kt, hget hp.H b with
    | some kd, some (.mp es cl) =>
      if keyOkP P kd kc then
        match xfindK P kt kd kc es with
        | some none => .ret (.tup [], { hp with H := hset hp.H b (.mp es cl) })
        | some (some (i, _)) => .ret (.tup [], { hp with H := hset hp.H b (.mp (es.eraseIdx i) cl) })
        | none => .bad "delete key"
      else .bad "delete keys"
    | _, _ => .bad "delete"
  | _, _, _ => .bad "delete"
theorem All2.eraseIdx {α β : Type} {R : α → β → Prop} {l : List α} {m : List β} (k : All2 R l m) : ∀ (i : Nat), All2 R (l.eraseIdx i) (m.eraseIdx i) := by
  induction k with
  | nil => intro i; exact .nil
  | cons a b ih =>
    intro i
    cases i with
    | zero => exact b
    | succ i => exact .cons a (ih i)
theorem xdelete_ok (h : HRel C hp w) (t t2 ty : TypeId) {m k : SV} {um uk : Value} (hm : m.rel C um) (hk : k.rel C uk) : Out P C w (Builtin.delete_ #[t, t2] ty #[um, uk]) (xdelete P t m k hp) := by
  unfold xdelete
  split
  · rename_i kt et b kc ht
    split
    · rename_i kd es cl hkd hb
      split
      · rename_i hko
        obtain ⟨g, c, hg, rfl⟩ := hm
        obtain ⟨g', c', k1, ms, k2, k3⟩ := h.at_ _ _ hb
        rw [hg] at k1; cases k1
        have hlt := (Array.getElem?_eq_some_iff.1 k3).1
        have hk' : kc.rel C uk := hk
        have set_ok : ∀ o : Obj, (setObj g o).run P w = .ok () { w with heap := w.heap.setIfInBounds g o } := fun o => by simp [setObj, Sem.run, k3]
        have goes : ∀ (blk : Blk) (o : Obj), blk.rel C c (some o) → HRel C { hp with H := hset hp.H b blk } { w with heap := w.heap.setIfInBounds g o } ∧ Kp C w C { w with heap := w.heap.setIfInBounds g o } := fun blk o ho =>
          h.turn hb rfl hg (fun q hq => by simp [Array.getElem?_setIfInBounds_ne (Ne.symm hq)]) (by simp) rfl rfl rfl (by simpa [Array.getElem?_setIfInBounds_self, hlt] using ho)
        split
        · rename_i hf
          have hf' := xfindK_ok (C := C) hkd hk' hf k2
          simp only at hf'
          intro Φ hx
          obtain ⟨q1, q2⟩ := goes (.mp es cl) (.map ms.toArray cl) ⟨ms, k2, rfl⟩
          refine ⟨C, _, .tuple #[], .tup [], _, ?_, ⟨[], .nil, rfl⟩, q1, q2, hx⟩
          simp only [Builtin.delete_, List.getElem?_toArray, List.getElem?_cons_zero, List.getElem?_cons_succ, Sem.run_bind, run_underlying ht, Result.andThen_ok, run_getObj_map k3, run_checkKeyP hkd hko hk', List.toList_toArray]
          rw [hf' w]
          simp only [Result.andThen_ok, Sem.run_bind, set_ok, Sem.run_pure]
        · rename_i i p hf
          have hf' := xfindK_ok (C := C) hkd hk' hf k2
          simp only at hf'
          obtain ⟨v, f1, f2⟩ := hf'
          intro Φ hx
          obtain ⟨q1, q2⟩ := goes (.mp (es.eraseIdx i) cl) (.map (ms.eraseIdx i).toArray cl) ⟨_, k2.eraseIdx i, rfl⟩
          refine ⟨C, _, .tuple #[], .tup [], _, ?_, ⟨[], .nil, rfl⟩, q1, q2, hx⟩
          simp only [Builtin.delete_, List.getElem?_toArray, List.getElem?_cons_zero, List.getElem?_cons_succ, Sem.run_bind, run_underlying ht, Result.andThen_ok, run_getObj_map k3, run_checkKeyP hkd hko hk', List.toList_toArray]
          rw [f1 w]
          have he : ms.toArray.eraseIdxIfInBounds i = (ms.eraseIdx i).toArray := by
            unfold Array.eraseIdxIfInBounds
            split
            · simp
            · rename_i hn
              rw [List.eraseIdx_of_length_le (by simpa using hn)]
          simp only [Result.andThen_ok, Sem.run_bind, he, set_ok, Sem.run_pure]
        · exact Out.bad
      · exact Out.bad
    · exact Out.bad
  · exact Out.bad
end
end
end Go.Proofs.YtkogjjeoihnjpaaGreat.Sx
end
section
set_option linter.unusedVariables false
set_option linter.unusedSimpArgs false
namespace Go.Proofs.YtkogjjeoihnjpaaGreat.Sx
open Go
noncomputable section
section
variable {P : Program} {C : Ctx}
def pbinI (ks : Ks) (op : BinOp) (k : IntKind) (a : E) (k' : IntKind) (b : E) : Option SV :=
  match op with
  | .shl | .shr => if knownF ks (mkCmp .lss b (.lit 0)) = some false then some (.sc (.int k (mkBin op k a b))) else none
  | .quo | .rem => if k = k' ∧ nzF ks b = true then some (.sc (.int k (mkBin op k a b))) else none
  | .add | .sub | .mul | .and | .or | .xor | .andNot => if k = k' then some (.sc (.int k (mkBin op k a b))) else none
  | .eql | .neq | .lss | .leq | .gtr | .geq => if k = k' then some (.sc (.bool (mkCmp op a b))) else none
theorem pbinI_ok {ks : Ks} (hks : KsOk C.V ks) (op : BinOp) (k : IntKind) {a : E} (k' : IntKind) {b : E} (t : TypeId) (ha : a.sc C.V C.vd) (hb : b.sc C.V C.vd) :
    OutP P C (binOp op t (.int k (a.den C.V)) (.int k' (b.den C.V))) (pbinI ks op k a k' b) := by
  have sh : ∀ op, (op = .shl ∨ op = .shr) → knownF ks (mkCmp .lss b (.lit 0)) = some false → OutP P C (binOp op t (.int k (a.den C.V)) (.int k' (b.den C.V))) (some (.sc (.int k (mkBin op k a b)))) := fun op ho hc => by
    have h0 : ¬ b.den C.V < 0 := by
      have k1 := mkCmp_ok .lss hb (b := .lit 0) (d := C.vd) trivial
      have := knownF_ok hks k1.1 hc
      rw [k1.2, den_lit] at this
      simpa [cmpD] using this
    refine OutP.int (fun w => ?_) (mkBin_ok op k ha hb)
    rcases ho with rfl | rfl
    · rw [binOp_shl]; simp [Op.shift, h0, binD]
    · rw [binOp_shr]; simp [Op.shift, h0, binD]
  have dv : ∀ op, (op = .quo ∨ op = .rem) → k = k' → nzF ks b = true → OutP P C (binOp op t (.int k (a.den C.V)) (.int k' (b.den C.V))) (some (.sc (.int k (mkBin op k a b)))) := fun op ho hk hc => by
    subst hk
    have h0 : ¬ b.den C.V = 0 := nzF_ok hks hb hc
    refine OutP.int (fun w => ?_) (mkBin_ok op k ha hb)
    rcases ho with rfl | rfl
    · rw [binOp_quo]; simp [Op.intDiv, h0, binD]
    · rw [binOp_rem]; simp [Op.intDiv, h0, binD]
  unfold pbinI
  cases op <;> simp only
  case shl => split; (· rename_i hc; exact sh .shl (.inl rfl) hc); exact OutP.none
  case shr => split; (· rename_i hc; exact sh .shr (.inr rfl) hc); exact OutP.none
  case quo => split; (· rename_i hc; exact dv .quo (.inl rfl) hc.1 hc.2); exact OutP.none
  case rem => split; (· rename_i hc; exact dv .rem (.inr rfl) hc.1 hc.2); exact OutP.none
  case add => split; (· rename_i hk; subst hk; refine OutP.int (fun w => ?_) (mkBin_ok _ k ha hb); rw [binOp_add]; rfl); exact OutP.none
  case sub => split; (· rename_i hk; subst hk; refine OutP.int (fun w => ?_) (mkBin_ok _ k ha hb); rw [binOp_sub]; rfl); exact OutP.none
  case mul => split; (· rename_i hk; subst hk; refine OutP.int (fun w => ?_) (mkBin_ok _ k ha hb); rw [binOp_mul]; rfl); exact OutP.none
  case and => split; (· rename_i hk; subst hk; refine OutP.int (fun w => ?_) (mkBin_ok _ k ha hb); rw [binOp_and]; rfl); exact OutP.none
  case or => split; (· rename_i hk; subst hk; refine OutP.int (fun w => ?_) (mkBin_ok _ k ha hb); rw [binOp_or]; rfl); exact OutP.none
  case xor => split; (· rename_i hk; subst hk; refine OutP.int (fun w => ?_) (mkBin_ok _ k ha hb); rw [binOp_xor]; rfl); exact OutP.none
  case andNot => split; (· rename_i hk; subst hk; refine OutP.int (fun w => ?_) (mkBin_ok _ k ha hb); rw [binOp_andNot]; rfl); exact OutP.none
  case eql => split; (· rename_i hk; subst hk; refine OutP.bool (fun w => ?_) (mkCmp_ok _ ha hb); rw [binOp_eql]; rfl); exact OutP.none
  case neq => split; (· rename_i hk; subst hk; refine OutP.bool (fun w => ?_) (mkCmp_ok _ ha hb); rw [binOp_neq]; rfl); exact OutP.none
  case lss => split; (· rename_i hk; subst hk; refine OutP.bool (fun w => ?_) (mkCmp_ok _ ha hb); rw [binOp_lss]; rfl); exact OutP.none
  case leq => split; (· rename_i hk; subst hk; refine OutP.bool (fun w => ?_) (mkCmp_ok _ ha hb); rw [binOp_leq]; rfl); exact OutP.none
  case gtr => split; (· rename_i hk; subst hk; refine OutP.bool (fun w => ?_) (mkCmp_ok _ ha hb); rw [binOp_gtr]; rfl); exact OutP.none
  case geq => split; (· rename_i hk; subst hk; refine OutP.bool (fun w => ?_) (mkCmp_ok _ ha hb); rw [binOp_geq]; rfl); exact OutP.none
theorem none_hrel (C : Ctx) (w : World) : HCore C [] w := ⟨fun b blk h => by simp [hget] at h, fun b b' blk blk' g c c' h => by simp [hget] at h⟩
def pbin (P : Program) (ks : Ks) (op : BinOp) (t : TypeId) (xo yo : Operand) (x y : SV) : Option SV :=
  match x, y with
  | .pv (.one (.int k a)), .pv (.one (.int k' b)) => pbinI ks op k a k' b
  | .pv (.one (.str a)), .pv (.one (.str b)) => match strD op a b with
    | some c => some (.sc c)
    | none => none
  | .pv p, .pv q =>
    if (isNilI x && isNilI y && !isConst xo && !isConst yo) || ((isAggV x || isAggV y) && P.eqGuardType P.depth t) then none else
    match op, xeqP P [] 64 t p q with
    | .eql, some e => some (.sc (.bool e))
    | .neq, some e => some (.sc (.bool (mkNo e)))
    | _, _ => none
  | _, _ => none
theorem pbin_ok {ks : Ks} (hks : KsOk C.V ks) (op : BinOp) (t : TypeId) (xo yo : Operand) {x y : SV} {u v : Value} (hu : x.rel C u) (hv : y.rel C v) :
    OutP P C (do eqGuard op t xo yo u v; binOp op t u v) (pbin P ks op t xo yo x y) := by
  unfold pbin
  split
  · rename_i k a k' b
    obtain ⟨h1, rfl⟩ := hu
    obtain ⟨h2, rfl⟩ := hv
    have := pbinI_ok (P := P) hks op k k' t h1 h2
    rw [eqGuard_at_int]
    simpa using this
  · rename_i a b
    have hu' : u = .string a := hu
    have hv' : v = .string b := hv
    subst hu'; subst hv'
    split
    · rename_i c hc
      have e : binOp op t (.string a) (.string b) = Op.stringOp op a b := by cases op <;> rfl
      rw [eqGuard_at_string, e]
      unfold strD at hc
      cases op <;> simp only at hc <;> try (cases hc; done)
      case add =>
        split at hc
        · cases hc
        · rename_i hs
          cases hc
          refine OutP.mk (v := .string (a ++ b)) (fun w => ?_) rfl
          simp only [Op.stringOp, IntKind.max_i64]
          simp
          omega
      all_goals (cases hc; refine OutP.bool (fun w => ?_) ⟨trivial, rfl⟩; simp [Op.stringOp, tr_tt])
    · exact OutP.none
  · rename_i p q hni hns
    split
    · exact OutP.none
    · rename_i hg
      split
      · rename_i e he
        obtain ⟨e1, e2⟩ := xeqP_notExt he
        have kk := fun w => xeqP_ok (w := w) (none_hrel C w) 64 he hu hv 10000 (by decide)
        have hnum : numV u = false ∨ numV v = false := .inl (xeqP_num he hni hns (v := v) hu)
        refine OutP.bool (fun w => ?_) ⟨(kk default).1, rfl⟩
        rw [Sem.run_bind, eqGuard_pv hu hv e1 e2 hg, (binOp_eq hnum).1]
        simp only [Result.andThen_ok, Sem.run_bind, Op.equal, Op.maxDepth, (kk w).2, Sem.run_pure]
      · rename_i e he
        obtain ⟨e1, e2⟩ := xeqP_notExt he
        have kk := fun w => xeqP_ok (w := w) (none_hrel C w) 64 he hu hv 10000 (by decide)
        have hnum : numV u = false ∨ numV v = false := .inl (xeqP_num he hni hns (v := v) hu)
        obtain ⟨n1, n2⟩ := mkNo_ok (kk default).1
        refine OutP.bool (fun w => ?_) ⟨n1, n2⟩
        rw [Sem.run_bind, eqGuard_pv hu hv e1 e2 hg, (binOp_eq hnum).2]
        simp only [Result.andThen_ok, Sem.run_bind, Op.equal, Op.maxDepth, (kk w).2, Sem.run_pure]
      · exact OutP.none
  · exact OutP.none
def ppick (ks : Ks) (c a b : SV) : Option SV :=
  match c with
  | .pv (.one (.bool e)) =>
   match knownF ks e with
   | some true => some a
   | some false => some b
   | none =>
    match a, b with
    | .pv (.one (.bool x)), .pv (.one (.bool y)) => some (.sc (.bool (mkIte e x y)))
    | .pv (.one (.int k x)), .pv (.one (.int k' y)) => if k = k' then some (.sc (.int k (mkIteI e x y))) else none
    | _, _ => none
  | _ => none
theorem ppick_ok {ks : Ks} (hks : KsOk C.V ks) {c a b : SV} {uc ua ub : Value} (hc : c.rel C uc) (ha : a.rel C ua) (hb : b.rel C ub) : OutP P C (do pure (if ← asBool uc then ua else ub)) (ppick ks c a b) := by
  unfold ppick
  split
  · rename_i e
    obtain ⟨s, rfl⟩ := hc
    have gen : ∀ (sv : SV), sv.rel C (if e.tr C.V = true then ua else ub) → OutP P C (do pure (if ← asBool (.bool (e.tr C.V)) then ua else ub)) (some sv) := fun sv hsv => by
      refine OutP.mk (fun w => ?_) hsv
      simp [asBool]
    split
    · rename_i hk; refine gen _ ?_; rw [knownF_ok hks s hk]; simpa using ha
    · rename_i hk; refine gen _ ?_; rw [knownF_ok hks s hk]; simpa using hb
    split
    · rename_i x y
      obtain ⟨sx, rfl⟩ := ha
      obtain ⟨sy, rfl⟩ := hb
      obtain ⟨k1, k2⟩ := mkIte_ok s sx sy
      refine gen _ ⟨k1, ?_⟩
      rw [k2]; split <;> rfl
    · rename_i k x k' y
      split
      · rename_i hk
        subst hk
        obtain ⟨sx, rfl⟩ := ha
        obtain ⟨sy, rfl⟩ := hb
        obtain ⟨k1, k2⟩ := mkIteI_ok s sx sy
        refine gen _ ⟨k1, ?_⟩
        rw [k2]; split <;> rfl
      · exact OutP.none
    · exact OutP.none
  · exact OutP.none
end
end
end Go.Proofs.YtkogjjeoihnjpaaGreat.Sx
end
section
set_option linter.unusedVariables false
set_option linter.unusedSimpArgs false
namespace Go.Proofs.YtkogjjeoihnjpaaGreat.Sx
open Go
noncomputable section
def OutN (P : Program) (C : Ctx) (w : World) (s : Sem Next) (t : XR) : Prop :=
  ∀ Φ : Env → SV × Hp → Prop, t.holds Φ C.V → ∃ C' w' n v sv hp', s.run P w = .ok n w' ∧ (n = .value v ∨ (n = .skip ∧ v = Go.undef)) ∧ sv.rel C' v ∧ HRel C' hp' w' ∧ Kp C w C' w' ∧ Φ C'.V (sv, hp')
def xev (ks : Ks) (g : Nat → SV) : Operand → Option SV
  | .tmp t => some (normV ks (g t))
  | .const v => (ofValue v).map .pv
  | .global _ => none
  | .func f => some (.sc (.fn (.func f) [] []))
def x1 {α : Type} (o : Option SV) (k : SV → T α) : T α :=
  match o with
  | some v => k v
  | none => .bad "operand"
def xevs (ev : Operand → Option SV) : List Operand → Option (List SV)
  | [] => some []
  | x :: xs => match ev x, xevs ev xs with
    | some v, some vs => some (v :: vs)
    | _, _ => none
def xevParts (ev : Operand → Option SV) : List (Nat × Operand) → Option (List (Nat × SV))
  | [] => some []
  | (i, x) :: xs => match ev x, xevParts ev xs with
    | some v, some vs => some ((i, v) :: vs)
    | _, _ => none
/-- an operand that may lack -/
def xevO (ev : Operand → Option SV) : Option Operand → Option (Option SV)
  | none => some none
  | some x => match ev x with
    | some v => some (some v)
    | none => none
def litBytes : List SC → Option (List Int)
  | [] => some []
  | .int .u8 (.lit n) :: r => match litBytes r with
    | some l => some (n :: l)
    | none => none
  | _ => none
def strOf (ns : List Int) : ByteArray := ns.foldl (fun r n => r.push (UInt8.ofNat n.toNat)) ByteArray.empty
/-- bytes of the text as a text -/
def xb2s (P : Program) (src dst : TypeId) (x : SV) (hp : Hp) : XR :=
  match P.underlying src, P.underlying dst, x with
  | some (.slice e), some .string, .pv (.one .nils) => match P.underlying e with
    | some (.int .u8) => .ret (.sc (.str ByteArray.empty), hp)
    | _ => .bad "convert"
  | some (.slice e), some .string, .pv (.one (.slice b o len _ _)) => match P.underlying e, hget hp.H b with
    | some (.int .u8), some (.cells row _ _ _) =>
      if o + len ≤ row.length then match litBytes ((row.drop o).take len) with
        | some ns => .ret (.sc (.str (strOf ns)), hp)
        | none => .bad "convert bytes"
      else .bad "convert bytes"
    | _, _ => .bad "convert"
  | _, _, _ => .bad "convert"
/-- the function that a method of a pointer's type is -/
def xmeth (P : Program) (t : TypeId) (name : String) : Option FuncId :=
  match P.info? t, P.underlying t with
  | some i, some (.pointer _) => match i.methods.find? (·.name == name) with
    | some m => match m.func with
      | some (g, true) => if m.path.isEmpty then some g else none
      | _ => none
    | none => none
  | _, _ => none
def nilOk (P : Program) : SV → Bool
  | .pv (.one (.mth name t _ _)) => (xmeth P t name).isSome
  | .pv (.one (.ptr _ _)) => true
  | .pv (.one (.fn (.func _) _ _)) => true
  | .pv (.one (.iface _ _)) => true
  | .pv (.one (.slice _ _ _ _ _)) => true
  | .pv (.one (.map _)) => true
  | _ => false
def pickV (c a b : SV) (hp : Hp) : XR :=
  match c with
  | .pv (.one (.bool e)) =>
   match knownF hp.gh.k e with
   | some true => .ret (a, hp)
   | some false => .ret (b, hp)
   | none =>
    match a, b with
    | .pv (.one (.bool x)), .pv (.one (.bool y)) => .ret (.sc (.bool (mkIte e x y)), hp)
    | .pv (.one (.int k x)), .pv (.one (.int k' y)) => if k = k' then .ret (.sc (.int k (mkIteI e x y)), hp) else .bad "pick"
    | _, _ => xif e hp (fun hp => .ret (a, hp)) (fun hp => .ret (b, hp))
  | _ => .bad "pick"
def xbuiltin (P : Program) (b : Builtin) (ts : List TypeId) (args : List SV) (hp : Hp) : XR :=
  match b, ts, args with
  | .append, [t, u], [s, x] => xappend P t u s x hp
  | .copy, [t, _], [d, s] => xcopy P t d s hp
  | .len, [t], [x] => xlen P t x hp
  | .cap, [t], [x] => xcap P t x hp
  | .delete, [t, _], [m, k] => xdelete P t m k hp
  | .min, _, xs => xmin xs hp
  | .max, _, xs => xmax xs hp
  | _, _, _ => .bad "builtin"
def o1 (o : Option SV) (k : SV → Option SV) : Option SV :=
  match o with
  | some v => k v
  | none => none
/-- an operation that looks at no memory -/
def pop (P : Program) (ks : Ks) (ev : Operand → Option SV) (op : Op) : Option SV :=
  match op with
  | .move x | .assign x => ev x
  | .pick c a b => o1 (ev c) fun c => o1 (ev a) fun a => o1 (ev b) fun b => ppick ks c a b
  | .build t ps => match xevParts ev ps.toList with
    | some l => xbuild P t l
    | none => none
  | .nilCheck x => o1 (ev x) fun v => if nilOk P v then some v else none
  | .binOp op t x y _ => o1 (ev x) fun a => o1 (ev y) fun b => pbin P ks op t x y a b
  | .unOp op _ x => o1 (ev x) fun v => xun op v
  | .convert s d x => o1 (ev x) fun v => xconv P s d v
  | .makeInterface t x => o1 (ev x) fun v => xiface P t v
  | .makeFunc f a b => match xevs ev a.toList, xevs ev b.toList with
    | some a, some b => xfunc f a b
    | _, _ => none
  | .slice t x lo hi mx => o1 (ev x) fun v => match xevO ev lo, xevO ev hi, xevO ev mx with
    | some lo, some hi, some mx => xslice P t v lo hi mx
    | _, _, _ => none
  | .fieldAddr t x f => o1 (ev x) fun v => xfieldAddr P t v f
  | .field t x f => o1 (ev x) fun v => xfield P t v f
  | .indexAddr t x i => o1 (ev x) fun v => o1 (ev i) fun i => xindexAddr P ks t v i
  | .index t x i => o1 (ev x) fun v => o1 (ev i) fun i => xindex P ks t v i
  | .extract x i => o1 (ev x) fun v => xextract v i
  | _ => none
/-- any other one, but for calls of functions of the text -/
def opName : Op → String
  | .move _ => "move" | .assign _ => "assign" | .pick .. => "pick" | .build .. => "build" | .nilCheck _ => "nilCheck" | .unOp .. => "unOp" | .makeInterface .. => "makeInterface" | .makeFunc .. => "makeFunc"
  | .slice .. => "slice" | .fieldAddr .. => "fieldAddr" | .field .. => "field" | .indexAddr .. => "indexAddr" | .index .. => "index" | .extract .. => "extract" | .range .. => "range" | .next .. => "next"
  | .typeAssert .. => "typeAssert" | .call _ => "call" | .defer _ => "defer" | .panic _ => "panic" | .mapEntry .. => "mapEntry" | .entryStore .. => "entryStore" | .ready _ => "ready" | .waits _ => "waits" | .binOp .. => "binOp" | .convert .. => "convert" | .load .. => "load" | .store .. => "store" | .lookup .. => "lookup" | .makeMap .. => "makeMap" | .makeSlice .. => "makeSlice" | .alloc .. => "alloc" | .box .. => "box" | .mapUpdate .. => "mapUpdate" | .entry .. => "entry" | .insert .. => "insert" | .buildSlice .. => "buildSlice" | _ => "other"
def xop (P : Program) (ev : Operand → Option SV) (op : Op) (hp : Hp) : XR :=
  match op with
  | .pick c a b => x1 (ev c) fun c => x1 (ev a) fun a => x1 (ev b) fun b => pickV c a b hp
  | .alloc t => xalloc P t hp
  | .box t x => x1 (ev x) fun v => xbox t v hp
  | .buildSlice t n ps => match xevParts ev ps.toList with
    | some l => xbuildSlice P t n l hp
    | none => .bad "operand"
  | .load t a => x1 (ev a) fun a => xload P t a hp
  | .store t a v => x1 (ev a) fun a => x1 (ev v) fun v => xstore P t a v hp
  | .binOp op t x y _ => x1 (ev x) fun a => x1 (ev y) fun b => xbin P op t x y a b hp
  | .convert s d x => x1 (ev x) fun v => xb2s P s d v hp
  | .makeMap _ r => match r with
    | none => xnewMap hp
    | some _ => .bad "makeMap"
  | .makeSlice t l c => x1 (ev l) fun l => x1 (ev c) fun c => xmake P t l c hp
  | .lookup t m k ok => x1 (ev m) fun m => x1 (ev k) fun k => xlookup P t m k ok hp
  | .range t m => x1 (ev m) fun m => xrange P t m hp
  | .entry it => x1 (ev it) fun it => xentry it hp
  | .mapUpdate t m k v | .insert t m k v => x1 (ev m) fun m => x1 (ev k) fun k => x1 (ev v) fun v => xupd P t m k v hp
  | .call { callee := .builtin b, args, argTypes } => match xevs ev args.toList with
    | some l => xbuiltin P b argTypes.toList l hp
    | none => .bad "operand"
  | op => .bad (opName op)
section
variable {P : Program} {C : Ctx} {hp : Hp} {w : World}
theorem OutN.bad {s : Sem Next} {why : String} : OutN P C w s (.bad why) := fun _ h => h.elim
theorem OutN.v {s : Sem Value} {t : XR} (h : Out P C w s t) : OutN P C w (do pure (.value (← s))) t := by
  intro Φ hx
  obtain ⟨C', w', v, sv, hp', k1, k2⟩ := h Φ hx
  exact ⟨C', w', .value v, v, sv, hp', by simp [k1], .inl rfl, k2⟩
theorem OutN.u {s : Sem Unit} {t : XR} (h : OutU P C w s t) : OutN P C w (do s; pure .skip) t := by
  intro Φ hx
  obtain ⟨C', w', hp', k1, k2, k3, k4⟩ := h Φ hx
  exact ⟨C', w', .skip, Go.undef, SV.undef, hp', by simp [k1], .inr ⟨rfl, rfl⟩, rfl, k2, k3, k4⟩
theorem OutN.pure (h : HRel C hp w) {sv : SV} {v : Value} (hr : sv.rel C v) : OutN P C w (pure (.value v)) (.ret (sv, hp)) := fun Φ hx => ⟨C, w, .value v, v, sv, hp, rfl, .inl rfl, hr, h, .refl C w, hx⟩
/-- what the operands are -/
def EvOk (C : Ctx) (ev : Operand → Option SV) (ρ : Operand → Value) : Prop := ∀ x sv, ev x = some sv → sv.rel C (ρ x)
theorem OutN.x1 {s : Sem Next} {o : Option SV} {k : SV → XR} (h : ∀ sv, o = some sv → OutN P C w s (k sv)) : OutN P C w s (x1 o k) := by
  cases o with
  | none => exact OutN.bad
  | some v => exact h v rfl
theorem evs_ok {ev : Operand → Option SV} {ρ : Operand → Value} (he : EvOk C ev ρ) : ∀ {l : List Operand} {vs : List SV}, xevs ev l = some vs → All2 (SV.rel C) vs (l.map ρ)
  | [], vs, h => by cases h; exact .nil
  | x :: xs, vs, h => by
    unfold xevs at h
    split at h
    · rename_i v vs' h1 h2
      cases h
      exact .cons (he x v h1) (evs_ok he h2)
    · cases h
theorem evParts_ok {ev : Operand → Option SV} {ρ : Operand → Value} (he : EvOk C ev ρ) : ∀ {l : List (Nat × Operand)} {vs : List (Nat × SV)}, xevParts ev l = some vs → All2 (partRel C) vs (l.map fun (i, x) => (i, ρ x))
  | [], vs, h => by cases h; exact .nil
  | (i, x) :: xs, vs, h => by
    unfold xevParts at h
    split at h
    · rename_i v vs' h1 h2
      cases h
      exact .cons ⟨rfl, he x v h1⟩ (evParts_ok he h2)
    · cases h
theorem evO_ok {ev : Operand → Option SV} {ρ : Operand → Value} (he : EvOk C ev ρ) {o : Option Operand} {v : Option SV} (h : xevO ev o = some v) : optRel C v (o.map ρ) := by
  unfold xevO at h
  split at h
  · cases h; rfl
  · split at h
    · rename_i hv
      cases h
      exact ⟨_, rfl, he _ _ hv⟩
    · cases h
theorem pickV_ok (h : HRel C hp w) {c a b : SV} {uc ua ub : Value} (hc : c.rel C uc) (ha : a.rel C ua) (hb : b.rel C ub) : OutN P C w (do pure (.value (if ← asBool uc then ua else ub))) (pickV c a b hp) := by
  unfold pickV
  split
  · rename_i e
    obtain ⟨s, rfl⟩ := hc
    have gen : ∀ (sv : SV), sv.rel C (if e.tr C.V = true then ua else ub) → OutN P C w (do pure (.value (if ← asBool (.bool (e.tr C.V)) then ua else ub))) (.ret (sv, hp)) := fun sv hsv => by
      have := OutN.pure (P := P) h hsv
      simpa [asBool] using this
    split
    · rename_i hk; refine gen _ ?_; rw [knownF_ok h.ks s hk]; simpa using ha
    · rename_i hk; refine gen _ ?_; rw [knownF_ok h.ks s hk]; simpa using hb
    split
    · rename_i x y
      obtain ⟨sx, rfl⟩ := ha
      obtain ⟨sy, rfl⟩ := hb
      obtain ⟨k1, k2⟩ := mkIte_ok s sx sy
      refine gen _ ⟨k1, ?_⟩
      rw [k2]; split <;> rfl
    · rename_i k x k' y
      split
      · rename_i hk
        subst hk
        obtain ⟨sx, rfl⟩ := ha
        obtain ⟨sy, rfl⟩ := hb
        obtain ⟨k1, k2⟩ := mkIteI_ok s sx sy
        refine gen _ ⟨k1, ?_⟩
        rw [k2]; split <;> rfl
      · exact OutN.bad
    · intro Φ hx
      obtain ⟨hpf, hf, _, _, _, _, _, _, hh⟩ := xif_holds h s hx
      have gen2 : ∀ (sv : SV), sv.rel C (if e.tr C.V = true then ua else ub) → OutN P C w (do pure (.value (if ← asBool (.bool (e.tr C.V)) then ua else ub))) (.ret (sv, hpf)) := fun sv hsv => by
        have := OutN.pure (P := P) hf hsv
        simpa [asBool] using this
      cases hb' : e.tr C.V with
      | true => exact (by have := gen2 a (by rw [hb']; simpa using ha) Φ (hh.1 hb'); rw [hb'] at this; exact this)
      | false => exact (by have := gen2 b (by rw [hb']; simpa using hb) Φ (hh.2 hb'); rw [hb'] at this; exact this)
  · exact OutN.bad
theorem xbuiltin_ok (h : HRel C hp w) (b : Builtin) (ts : Array TypeId) (ty : TypeId) (cs : Array Bool) {args : List SV} {vs : List Value} (ha : All2 (SV.rel C) args vs) : OutN P C w (builtin b ts ty cs vs.toArray) (xbuiltin P b ts.toList args hp) := by
  unfold xbuiltin
  split
  · rename_i t u s x hts
    cases ha with
    | cons h1 h2 => cases h2 with
      | cons h2 h3 =>
        cases h3
        have e : ts = #[t, u] := by apply Array.ext'; exact hts
        subst e
        exact OutN.v (xappend_ok h t u ty h1 h2)
  · rename_i t u d s hts
    cases ha with
    | cons h1 h2 => cases h2 with
      | cons h2 h3 =>
        cases h3
        have e : ts = #[t, u] := by apply Array.ext'; exact hts
        subst e
        exact OutN.v (xcopy_ok h t u ty h1 h2)
  · rename_i t x hts
    cases ha with
    | cons h1 h2 =>
      cases h2
      have e : ts = #[t] := by apply Array.ext'; exact hts
      subst e
      exact OutN.v (xlen_ok h t ty h1)
  · rename_i t x hts
    cases ha with
    | cons h1 h2 =>
      cases h2
      have e : ts = #[t] := by apply Array.ext'; exact hts
      subst e
      exact OutN.v (xcap_ok h t ty h1)
  · rename_i t u m k hts
    cases ha with
    | cons h1 h2 => cases h2 with
      | cons h2 h3 =>
        cases h3
        have e : ts = #[t, u] := by apply Array.ext'; exact hts
        subst e
        exact OutN.v (xdelete_ok h t u ty h1 h2)
  · exact OutN.v (xmin_ok h ts ty ha)
  · exact OutN.v (xmax_ok h ts ty ha)
  · exact OutN.bad
theorem litBytes_ok : ∀ {l : List SC} {ns : List Int} {vs : List Value}, litBytes l = some ns → All2 (SC.rel C) l vs → vs = ns.map (Value.int .u8)
  | [], ns, vs, h, hv => by cases hv; cases h; rfl
  | c :: l, ns, vs, h, hv => by
    cases hv with
    | cons h1 h2 =>
      unfold litBytes at h
      split at h
      · rename_i e; cases e
      · rename_i n r e
        cases e
        split at h
        · rename_i l' hl
          cases h
          obtain ⟨_, rfl⟩ := h1
          rw [litBytes_ok hl h2]
          rfl
        · cases h
      · cases h
theorem xb2s_ok (h : HRel C hp w) (src dst : TypeId) {x : SV} {v : Value} (hx : x.rel C v) : Out P C w (convert src dst v) (xb2s P src dst x hp) := by
  unfold xb2s
  split
  · rename_i e hs hd
    split
    · rename_i he
      have hv : v = .slice none 0 0 := hx
      subst hv
      refine Out.pure h (v := .string ByteArray.empty) ?_ rfl
      rw [run_convert_bytes_string w src dst e _ _ _ hs he hd]
      rfl
    · exact Out.bad
  · rename_i e b o len cap el hs hd
    split
    · rename_i row T es q he hb
      split
      · rename_i hl
        split
        · rename_i ns hns
          obtain ⟨g, c, hg, hv, _⟩ := hx
          generalize (if el = true then c - cap else cap) = qq at hv
          subst hv
          obtain ⟨g', c', k1, vs, sp, h1, h2, _⟩ := h.at_ _ _ hb
          rw [hg] at k1; cases k1
          have hlen := h1.length
          have hvs := litBytes_ok hns ((h1.drop o).take len)
          refine Out.pure h (v := .string (strOf ns)) ?_ rfl
          rw [run_convert_bytes_string w src dst e _ _ _ hs he hd]
          refine run_bytesToString w ⟨g, o, none⟩ len qq ns ?_
          rw [← hvs]
          have := run_loadCells_list (P := P) w ⟨g, o, none⟩ ((vs.drop o).take len) (fun j v hj => by
            rw [List.getElem?_take] at hj
            split at hj
            · rw [List.getElem?_drop] at hj
              have hlt := (List.getElem?_eq_some_iff.1 hj).1
              simp only [Addr.add_lit, World.cell?, h2]
              simp [List.getElem?_append_left hlt, hj]
            · cases hj)
          have hln : ((vs.drop o).take len).length = len := by simp; omega
          rw [hln] at this
          exact this
        · exact Out.bad
      · exact Out.bad
    · exact Out.bad
  · exact Out.bad
theorem xmeth_spec {t : TypeId} {name : String} {g : FuncId} (h : xmeth P t name = some g) : ∃ i e m, P.info? t = some i ∧ P.underlying t = some (.pointer e) ∧ i.methods.find? (·.name == name) = some m ∧ m.func = some (g, true) ∧ m.path = #[] := by
  unfold xmeth at h
  split at h
  · rename_i i e hi ht
    split at h
    · rename_i m hm
      split at h
      · rename_i g' hf
        split at h
        · rename_i hp
          cases h
          exact ⟨i, e, m, hi, ht, hm, hf, by simpa using hp⟩
        · cases h
      · cases h
    · cases h
  · cases h
theorem run_method {t : TypeId} {name : String} {g : FuncId} (h : xmeth P t name = some g) (n : Nat) (u : Value) (w : World) : (method (n + 1) t u name).run P w = .ok (g, u) w := by
  obtain ⟨i, e, m, hi, ht, hm, hf, hp⟩ := xmeth_spec h
  simp only [method, Sem.run_bind, run_info hi, Result.andThen_ok, hm, hp, follow, Sem.run_pure, hf, receiverAt, run_underlying ht, Place.get]
theorem run_nilAhead {t : TypeId} {name : String} {g : FuncId} (h : xmeth P t name = some g) (n : Nat) (u : Value) (w : World) : (nilAhead (n + 1) t u name).run P w = .ok (some false) w := by
  obtain ⟨i, e, m, hi, ht, hm, hf, hp⟩ := xmeth_spec h
  simp only [nilAhead, Sem.run_bind, run_info hi, Result.andThen_ok, hm, hp, followBlind, Sem.run_pure, hf]
theorem nilOk_run {x : SV} {v : Value} (hx : x.rel C v) (hn : nilOk P x = true) (w : World) : ∀ ρ : Operand → Value, ∀ y, ρ y = v → ∀ (o : Oper), o.op = .nilCheck y → (execOp ρ o).run P w = .ok (.value v) w := by
  intro ρ y hy o ho
  unfold execOp
  rw [ho]
  simp only [hy]
  unfold nilOk at hn
  split at hn
  · rename_i name t b oo
    obtain ⟨g, c, hg, rfl⟩ := hx
    obtain ⟨f, hf⟩ := Option.isSome_iff_exists.1 hn
    simp only [List.getElem?_toArray, List.getElem?_cons_zero, Sem.run_bind, run_program, Result.andThen_ok]
    obtain ⟨n, hn'⟩ : ∃ n, P.types.size + Made.depth = n + 1 := ⟨P.types.size + Made.depth - 1, by unfold Made.depth; omega⟩
    rw [hn', run_nilAhead hf]
    simp
  · obtain ⟨g, c, hg, rfl⟩ := hx; rfl
  · obtain ⟨vs, ws, _, _, rfl⟩ := hx; rfl
  · obtain ⟨u, _, rfl⟩ := hx; rfl
  · obtain ⟨g, c, hg, rfl, _⟩ := hx; rfl
  · obtain ⟨g, c, hg, rfl⟩ := hx; rfl
  · cases hn
/-- what 'pop' says holds in whatever world -/
def PopOk (P : Program) (C : Ctx) (s : Sem Next) (o : Option SV) : Prop := ∀ sv, o = some sv → ∃ v, sv.rel C v ∧ ∀ w : World, s.run P w = .ok (.value v) w
theorem PopOk.v {s : Sem Value} {o : Option SV} (h : OutP P C s o) : PopOk P C (do pure (.value (← s))) o := fun sv hs => by
  obtain ⟨v, k1, k2⟩ := h sv hs
  exact ⟨v, k1, fun w => by simp [k2 w]⟩
theorem PopOk.none {s : Sem Next} : PopOk P C s none := fun _ h => nomatch h
theorem PopOk.o1 {s : Sem Next} {o : Option SV} {k : SV → Option SV} (h : ∀ sv, o = some sv → PopOk P C s (k sv)) : PopOk P C s (o1 o k) := by
  cases o with
  | none => exact PopOk.none
  | some v => exact h v rfl
theorem pop_ok {ks : Ks} (hks : KsOk C.V ks) {ev : Operand → Option SV} {ρ : Operand → Value} (he : EvOk C ev ρ) (o : Oper) : PopOk P C (execOp ρ o) (pop P ks ev o.op) := by
  obtain ⟨dst, op, ty, pos, after, guard⟩ := o
  simp only
  unfold pop
  split
  · rename_i x; exact fun sv hs => ⟨_, he _ _ hs, fun w => rfl⟩
  · rename_i x; exact fun sv hs => ⟨_, he _ _ hs, fun w => rfl⟩
  · refine PopOk.o1 fun c hc => PopOk.o1 fun a ha => PopOk.o1 fun b hb => ?_
    intro sv hs
    obtain ⟨v, k1, k2⟩ := ppick_ok (P := P) hks (he _ _ hc) (he _ _ ha) (he _ _ hb) sv hs
    refine ⟨v, k1, fun w => ?_⟩
    have := k2 w
    simp only [execOp, Sem.run_bind] at this ⊢
    revert this
    generalize (asBool _).run P w = r
    cases r with
    | ok b w' => simp only [Result.andThen_ok, Sem.run_pure]; intro h; cases h; rfl
    | halt x w' => simp [Result.andThen]
  · rename_i t ps
    split
    · rename_i l hl
      have := xbuild_ok (P := P) t (evParts_ok he hl)
      have e : (ps.toList.map fun (i, x) => (i, ρ x)).toArray = ps.map fun (i, x) => (i, ρ x) := by apply Array.ext'; simp
      rw [e] at this
      exact PopOk.v this
    · exact PopOk.none
  · rename_i x
    refine PopOk.o1 fun v hv => ?_
    split
    · rename_i hn
      intro sv hs
      cases hs
      exact ⟨_, he _ _ hv, fun w => nilOk_run (P := P) (he _ _ hv) hn w ρ x rfl _ rfl⟩
    · exact PopOk.none
  · exact PopOk.o1 fun a ha => PopOk.o1 fun b hb => PopOk.v (pbin_ok hks _ _ _ _ (he _ _ ha) (he _ _ hb))
  · exact PopOk.o1 fun v hv => PopOk.v (xun_ok _ (he _ _ hv))
  · exact PopOk.o1 fun v hv => PopOk.v (xconv_ok _ _ (he _ _ hv))
  · exact PopOk.o1 fun v hv => PopOk.v (xiface_ok _ (he _ _ hv))
  · rename_i f a b
    split
    · rename_i la lb hla hlb
      have := xfunc_ok (P := P) f (evs_ok he hla) (evs_ok he hlb)
      have e1 : (a.toList.map ρ).toArray = a.map ρ := by apply Array.ext'; simp
      have e2 : (b.toList.map ρ).toArray = b.map ρ := by apply Array.ext'; simp
      rw [e1, e2] at this
      exact PopOk.v this
    · exact PopOk.none
  · refine PopOk.o1 fun v hv => ?_
    split
    · rename_i lo hi mx h1 h2 h3
      exact PopOk.v (xslice_ok _ (he _ _ hv) (evO_ok he h1) (evO_ok he h2) (evO_ok he h3))
    · exact PopOk.none
  · exact PopOk.o1 fun v hv => PopOk.v (xfieldAddr_ok _ _ (he _ _ hv))
  · exact PopOk.o1 fun v hv => PopOk.v (xfield_ok _ _ (he _ _ hv))
  · exact PopOk.o1 fun v hv => PopOk.o1 fun i hi => PopOk.v (xindexAddr_ok hks _ (he _ _ hv) (he _ _ hi))
  · exact PopOk.o1 fun v hv => PopOk.o1 fun i hi => PopOk.v (xindex_ok hks _ (he _ _ hv) (he _ _ hi))
  · exact PopOk.o1 fun v hv => PopOk.v (xextract_ok _ (he _ _ hv))
  · exact PopOk.none
theorem xop_ok (h : HRel C hp w) {ev : Operand → Option SV} {ρ : Operand → Value} (he : EvOk C ev ρ) (o : Oper) : OutN P C w (execOp ρ o) (xop P ev o.op hp) := by
  obtain ⟨dst, op, ty, pos, after, guard⟩ := o
  simp only
  unfold xop
  split
  · exact OutN.x1 fun c hc => OutN.x1 fun a ha => OutN.x1 fun b hb => pickV_ok h (he _ _ hc) (he _ _ ha) (he _ _ hb)
  · exact OutN.v (xalloc_ok h _)
  · exact OutN.x1 fun v hv => OutN.v (xbox_ok h _ (he _ _ hv))
  · rename_i t n ps
    split
    · rename_i l hl
      have := xbuildSlice_ok (P := P) h t n (evParts_ok he hl)
      have e : (ps.toList.map fun (i, x) => (i, ρ x)).toArray = ps.map fun (i, x) => (i, ρ x) := by apply Array.ext'; simp
      rw [e] at this
      exact OutN.v this
    · exact OutN.bad
  · exact OutN.x1 fun v hv => OutN.v (xload_ok h _ (he _ _ hv))
  · exact OutN.x1 fun a ha => OutN.x1 fun v hv => OutN.u (xstore_ok h _ (he _ _ ha) (he _ _ hv))
  · exact OutN.x1 fun a ha => OutN.x1 fun b hb => OutN.v (xbin_ok h _ _ _ _ (he _ _ ha) (he _ _ hb))
  · exact OutN.x1 fun v hv => OutN.v (xb2s_ok h _ _ (he _ _ hv))
  · split
    · exact OutN.v (xnewMap_ok h _ (r := none) ⟨rfl, rfl⟩)
    · exact OutN.bad
  · exact OutN.x1 fun l hl => OutN.x1 fun c hc => OutN.v (xmake_ok h _ (he _ _ hl) (he _ _ hc))
  · exact OutN.x1 fun m hm => OutN.x1 fun k hk => OutN.v (xlookup_ok h _ _ (he _ _ hm) (he _ _ hk))
  · exact OutN.x1 fun m hm => OutN.v (xrange_ok h _ (he _ _ hm))
  · exact OutN.x1 fun m hm => OutN.v (xentry_ok h (he _ _ hm))
  · exact OutN.x1 fun m hm => OutN.x1 fun k hk => OutN.x1 fun v hv => OutN.u (xupd_ok h _ (he _ _ hm) (he _ _ hk) (he _ _ hv))
  · exact OutN.x1 fun m hm => OutN.x1 fun k hk => OutN.x1 fun v hv => OutN.u (xupd_ok h _ (he _ _ hm) (he _ _ hk) (he _ _ hv))
  · rename_i b args ts
    split
    · rename_i l hl
      have := fun cs => xbuiltin_ok (P := P) h b ts ty cs (evs_ok he hl)
      have e : (args.toList.map ρ).toArray = args.map ρ := by apply Array.ext'; simp
      rw [e] at this
      simp only [execOp, resolve, invoke, pure_bind]
      exact this _
    · exact OutN.bad
  · exact OutN.bad
end
end
end Go.Proofs.YtkogjjeoihnjpaaGreat.Sx
end
