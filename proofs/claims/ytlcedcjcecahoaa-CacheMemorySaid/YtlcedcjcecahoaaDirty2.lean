/- The cache's iterator over dirty lines, walked: each line with a new block of its bytes. No condition. -/
import Derived.Test.YtlcedcjcecahoaaRange
import Derived.Test.YtlcedcjcecahoaaCache9
import Derived.RegionIn
import Derived.BigRegionIn
import Derived.Stop.RegionWithIn
set_option linter.unusedVariables false
set_option linter.unusedSimpArgs false
namespace Go.Proofs.Ytlcedcjcecahoaa
open Go.RowKit Go.Shelf
set_option maxRecDepth 100000
attribute [local go_sem] Oper.semAt_some
attribute [local go_sem ↓] ld_line st_line sl_64
attribute [local go_sem] rl_line rs_line set_new there_new lineAt_new zc_line run_slice64_all
/-- block rb holds the lines d, one behind the other -/
def LinesAt (w : World) (rb : Nat) (d : List CLine) : Prop := ∀ j, j < d.length → ∀ i, i < 67 → w.cell? ⟨rb, j * 67 + i, none⟩ = some (lineCell (d.getD j .zero) i) ∧ w.frozen? ⟨rb, j * 67 + i, none⟩ = false
theorem LinesAt.there {w : World} {rb : Nat} {d : List CLine} (h : LinesAt w rb d) {j : Nat} (hj : j < d.length) : lineThere w rb (j * 67) = true := by
  refine List.all_eq_true.2 fun i hi => ?_
  rw [(h j hj i (List.mem_range.1 hi)).1, (h j hj i (List.mem_range.1 hi)).2]
  rfl
theorem LinesAt.line {w : World} {rb : Nat} {d : List CLine} (h : LinesAt w rb d) {j : Nat} (hj : j < d.length) : lineAt w rb (j * 67) = lineArr (d.getD j .zero) := by
  unfold lineAt lineArr lineVals
  congr 1
  refine List.map_congr_left fun i hi => ?_
  rw [(h j hj i (List.mem_range.1 hi)).1]
  rfl
theorem LinesAt.block {w w' : World} {rb : Nat} {d : List CLine} (h : LinesAt w rb d) (hb : w'.heap[rb]? = w.heap[rb]?) : LinesAt w' rb d := fun j hj i hi => by
  have := h j hj i hi
  unfold World.cell? World.frozen? at *
  simp only [hb]
  exact this
theorem step_append_in {F : Fence} {n : Nat} {P : Program} (w : World) {ops : Array Oper} {o : Oper} {a : Act} {K : Act → World → Prop} {Q : Exit → Act → World → Prop} {E : Prop} (hgd : o.guard = none) (s x : Operand) (t : TypeId)
    (ho : o.op = .call { callee := .builtin .append, args := #[s, x], argTypes := #[t, t] })
    (base : Nat) (e : TypeId) (i : TypeInfo) (z : Value) (size bytes : Nat) (ht : P.underlying t = some (.slice e)) (hi : P.info? e = some i) (hz : i.zero = some z)
    (hsize : i.size = size) (hby : i.bytes = bytes) (hzs : z.cells.size = size) (hsz : 0 < size)
    (v : Value) (k : Nat) (xs : List Value) (hs : a.eval s = v) (hown : w.ownsRow base e size v k xs)
    (ad : Addr) (m c : Nat) (news : List Value) (hx : a.eval x = .slice (some ad) m c) (hl : news.length = m * size) (hnews : ∀ j u, news[j]? = some u → w.cell? (ad.add j) = some u) (h1 : ∀ u ∈ news, u.oneCell' = true)
    (h63 : k + m ≤ maxLen) (hbytes : (k + m) * bytes ≤ 140737488355328) (hbase : base ≤ w.heap.size)
    (h : ∀ v' w', w'.ownsRow base e size v' (k + m) (xs ++ news) → w.grownBy w' v.ownBlock → K (a.put o.dst v') w') :
    if Region.wanted o (yielded ops a.tmps) = true then Oper.wpIn F n P o a w K Q else E := by
  have hw : Region.wanted o (yielded ops a.tmps) = true := by simp [Region.wanted, hgd]
  rw [if_pos hw]
  obtain ⟨v', w', hrun, r1, r2, _⟩ := run_append_own (P := P) w base t o.type e i z size bytes ht hi hz hsize hby hzs hsz v k xs hown ad m c news hl hnews h1 h63 hbytes hbase
  unfold Oper.wpIn
  refine ⟨by simp [Oper.about, ho, resolve, Target.leads, Sem.run_pure], ?_⟩
  rw [Oper.semAt_plain F _ _ (by rw [ho]; intro c hc'; cases hc')]
  simp [execOp, ho, resolve, invoke, builtin, hs, hx, hrun, Result.andThen]
  exact h v' w' r1 r2
theorem own64_of {w w' : World} {n0 : Nat} {v : Value} {D : Nat → Int} (hown : w'.ownsRow n0 5 1 v (0 + 64) ([] ++ (List.range 64).map fun q => Value.int .u8 (D q))) (hg : w.grownBy w' (Value.slice none 0 0).ownBlock) :
    ∃ g cap, v = .slice (some ⟨g, 0, none⟩) 64 cap ∧ Own64 w' n0 g D ∧ Below w.heap.size w w' := by
  obtain ⟨_, hh | ⟨g', cap', cur, hv9, hg9, hh9, _, _, hc9, ht9⟩⟩ := hown
  · cases hh.2
  · refine ⟨g', cap', hv9, ⟨hg9, cur, hh9, fun q hq => ?_⟩, below_of_grown_nil hg⟩
    have h3 : (cur.toList.take ((0 + 64) * 1))[q]? = ([] ++ ((List.range 64).map fun q => Value.int .u8 (D q)))[q]? := by rw [ht9]
    rw [List.getElem?_take_of_lt (by omega), Array.getElem?_toList, List.nil_append] at h3
    rw [h3]; simp [hq]
abbrev Told := CLine × Nat × Nat
def toldArgs (x : Told) : Array Value := #[.int .u64 x.1.tag, .slice (some ⟨x.2.1, 0, none⟩) 64 x.2.2]
set_option maxHeartbeats 4000000 in
theorem dirty_2 (F : Fence) (k : Nat) (hF : F.fn 38) (hro : F.round = none) (hk : 1 ≤ k) (l q rb cap n0 : Nat) (S : Nat → Prop) (hS : ¬ S rb) (d : List CLine) {W : World} (hq : W.cell? ⟨q, 0, none⟩ = some (.slice (some ⟨rb, 0, none⟩) d.length cap)) (hd : LinesAt W rb d)
    (hk1 : 1 ≤ k) (hr0 : rb < W.heap.size) (hn0 : n0 ≤ W.heap.size) (hsm : d.length ≤ 128) (J : List Told → World → Prop) (hJ : AbidesFrom W.heap.size J)
    (hY : ∀ pre x W, J pre W → (Own64 W n0 x.2.1 x.1.data ∧ x.1 = d.getD pre.length .zero) → pre.length < d.length → YieldAt F (k - 1) Try.prog l (toldArgs x) W fun e W' => e = .returned (.bool true) ∧ J (pre ++ [x]) W' ∧ Turned S W W')
    (h0 : J [] W) :
    CallsIn F k Try.prog 38 #[.func (.yield l) #[] #[], .pointer (some ⟨q, 0, none⟩)] W fun e W' => (∃ v, e = .returned v) ∧ ∃ xs, xs.map (·.1) = d ∧ J xs W' := by
  have HD := Lib.hid hd; have HJ := Lib.hid hJ; have HY := Lib.hid hY; have HN0 := Lib.hid hn0; have HSR := Lib.hid hS; have HR0 := Lib.hid hr0; have H0 := Lib.hid h0; have HSM := Lib.hid hsm
  have q1 : (d.length : Int) ≤ 128 := by omega
  clear hd hJ hY hn0 h0 hsm hS hr0
  refine callsIn_of_wp Try.func38 rfl hF ?_ hro
  simp only [Try.ntmps38, List.size_toArray, List.length_cons, List.length_nil, Nat.reduceAdd, Nat.reduceSub, Array.replicate_succ, Array.replicate_zero, List.push_toArray, List.append_toArray, List.nil_append, List.cons_append]
  gi_wp2
  gi_loopw [7] (fun i wr => ∃ xs : List Told, xs.map (·.1) = d.take xs.length ∧ xs.length ≤ d.length ∧ i = .int .i64 (xs.length : Nat) ∧ J xs wr ∧ Turned S W wr) (fun i _ => d.length - (intOf i).toNat)
  case atStart => exact ⟨[], rfl, Nat.zero_le _, rfl, H0.out, Turned.refl _ _⟩
  case round =>
    obtain ⟨xs, hx1, hx2, rfl, hj, hbe⟩ := hrel
    have HX1 := Lib.hid hx1; have HX2 := Lib.hid hx2; have HJS := Lib.hid hj; have HBE := Lib.hid hbe
    clear hx1 hj hbe H0
    by_cases hlt : xs.length < d.length
    · have hd1 := HD.out.block (w' := wr) (HBE.out.block _ HR0.out HSR.out)
      have t1 := hd1.there hlt
      have t2 := hd1.line hlt
      have HD1 := Lib.hid hd1
      clear hd1 hx2
      generalize hkj : xs.length = j at *
      have HKJ := Lib.hid hkj
      gi_wp2
      have HX2 : Hid (∀ g c, (xs ++ [(d[j], g, c)]).map (·.1) = d.take (xs ++ [(d[j], g, c)]).length) := fun g c => by
        have h1 := HX1.out
        have h2 := HKJ.out
        rw [List.map_append, h1, List.length_append, List.length_singleton, h2, List.take_succ_eq_append_getElem hlt]
        rfl
      have HXD : Hid (d[j] = d.getD xs.length .zero) := by show _ = _; rw [HKJ.out]; simp [List.getD, hlt]
      generalize d[j] = x at *
      have a2 := la2 x
      obtain ⟨i0, hi0, hz0⟩ := Option.map_eq_some_iff.1 A_info5
      simp only [Prod.mk.injEq] at hz0
      have HI0 := Lib.hid hi0; have HZ0 := Lib.hid hz0
      have HJ1 : Hid (J xs (wr.alloc (.cells (lineArr x) 76)).drew) := HJ.out _ _ _ none (HJ.out _ _ _ none HJS.out (World.grownBy_alloc wr (.cells (lineArr x) 76) none) (fun r e => nomatch e)) ⟨rfl, rfl, rfl, Nat.le_refl _, fun _ _ _ => rfl⟩ (fun r e => nomatch e)
      have HW1 : Hid (wr.heap.size < (wr.alloc (.cells (lineArr x) 76)).drew.heap.size ∧ Turned S W (wr.alloc (.cells (lineArr x) 76)).drew) := ⟨by show _ < _; simp, (HBE.out.alloc _).drew⟩
      have HCL : Hid (∀ i, i < 67 → (wr.alloc (.cells (lineArr x) 76)).drew.cell? ⟨wr.heap.size, i, none⟩ = some (lineCell x i)) := fun i hi => by
        show (wr.alloc (.cells (lineArr x) 76)).cell? _ = _
        unfold World.cell?
        simp only [World.alloc_heap_new]
        exact lineArr_get x i hi
      have HLT := Lib.hid (show xs.length < d.length by rw [hkj]; exact hlt)
      have HLN : Hid (((List.range 64).map fun q => Value.int .u8 (x.data q)).length = 64 * 1) := by show List.length _ = _; simp
      have HMX : Hid (0 + 64 ≤ maxLen) := by show _ ≤ _; unfold maxLen; omega
      have HON : Hid (∀ u ∈ ((List.range 64).map fun q => Value.int .u8 (x.data q)), u.oneCell' = true) := fun u hu => by
        simp only [List.mem_map] at hu
        obtain ⟨q, _, rfl⟩ := hu
        rfl
      have HBS : Hid (n0 ≤ (wr.alloc (.cells (lineArr x) 76)).drew.heap.size) := Nat.le_trans HN0.out HW1.out.2.size
      clear hi0 hz0
      refine wpIn_region_any (by kernel_rfl) ?_
      change wpAnyIn _ _ _ _ _ _ _ _ _ (World.drew _)
      generalize (wr.alloc (.cells (lineArr x) 76)).drew = w1 at *
      generalize wr.heap.size = xb at *
      have HS64 : Hid (∀ j u, ((List.range 64).map fun q => Value.int .u8 (x.data q))[j]? = some u → w1.cell? ((⟨xb, 3, none⟩ : Addr).add j) = some u) := fun j u hj => by
        have hj64 : j < 64 := by have := (List.getElem?_eq_some_iff.1 hj).1; simpa using this
        simp [hj64] at hj
        rw [addr_add, HCL.out (3 + j) (by omega), ← hj]
        unfold lineCell
        rw [if_neg (by omega), if_neg (by omega), if_neg (by omega), show 3 + j - 3 = j by omega]
      refine wpAnyIn_take (i := 0) (oi := ⟨some 11, _, _, _, _, _⟩) (v := ?_) hro rfl (by kernel_rfl) (by kernel_rfl) (by kernel_rfl) (fun _ _ _ h => h) ⟨Or.inl ⟨by rfl, ?_⟩, fun _ => rfl⟩ ?_
      rotate_left 1
      · intro wq; first | (go_simp; done) | (go_simp; with_reducible rfl)
      simp only [Act.put, List.setIfInBounds_toArray, List.set_cons_zero, List.set_cons_succ]
      refine wpAnyIn_take (i := 1) (oi := ⟨some 12, _, _, _, _, _⟩) (v := ?_) hro rfl (by kernel_rfl) (by kernel_rfl) (by kernel_rfl) (fun _ _ _ h => h) ⟨Or.inl ⟨by rfl, ?_⟩, fun _ => rfl⟩ ?_
      rotate_left 1
      · intro wq; first | (go_simp; done) | (go_simp; with_reducible rfl)
      simp only [Act.put, List.setIfInBounds_toArray, List.set_cons_zero, List.set_cons_succ]
      refine wpAnyIn_take (i := 3) (oi := ⟨some 14, _, _, _, _, _⟩) (v := ?_) hro rfl (by kernel_rfl) (by kernel_rfl) (by kernel_rfl) (fun _ _ _ h => h) ⟨Or.inl ⟨by rfl, ?_⟩, fun _ => rfl⟩ ?_
      rotate_left 1
      · intro wq; first | (go_simp; done) | (go_simp; with_reducible rfl)
      simp only [Act.put, List.setIfInBounds_toArray, List.set_cons_zero, List.set_cons_succ]
      refine wpAnyIn_take (i := 4) (oi := ⟨some 15, _, _, _, _, _⟩) (v := ?_) hro rfl (by kernel_rfl) (by kernel_rfl) (by kernel_rfl) (fun _ _ _ h => h) ⟨Or.inl ⟨by rfl, ?_⟩, fun _ => rfl⟩ ?_
      rotate_left 1
      · intro wq; first | (go_simp; done) | (go_simp; with_reducible rfl)
      simp only [Act.put, List.setIfInBounds_toArray, List.set_cons_zero, List.set_cons_succ]
      refine wpAnyIn_ready (rs := [2, 5]) (by kernel_rfl) (by simp) (AllReadyIn.cons (o := ⟨some 13, _, _, _, _, _⟩) rfl (fun K hK => ?_) (AllReadyIn.cons (o := ⟨some 16, _, _, _, _, _⟩) rfl (fun K hK => ?_) AllReadyIn.nil))
      · have c2 : w1.cell? ⟨xb, 2, none⟩ = some (.int .u64 x.tag) := HCL.out 2 (by omega)
        go_simp
        refine hK _ _ ?_
        clear hK K
        try simp only [Act.put, List.setIfInBounds_toArray, List.set_cons_zero, List.set_cons_succ]
        refine wpAnyIn_ready (rs := [5]) (by kernel_rfl) (by simp) (AllReadyIn.cons (o := ⟨some 16, _, _, _, _, _⟩) rfl (fun K hK => ?_) AllReadyIn.nil)
        refine step_append_in _ rfl (.const (.slice none 0 0)) (.tmp 15) 34 rfl n0 5 i0 (.int .u8 0) 1 1 Try.underlying34 HI0.out HZ0.out.1 HZ0.out.2.1 HZ0.out.2.2 rfl (by decide) (.slice none 0 0) 0 [] rfl (World.ownsRow_nil _ _ _ _) ⟨xb, 3, none⟩ 64 64 ((List.range 64).map fun q => Value.int .u8 (x.data q)) rfl HLN.out HS64.out HON.out HMX.out (by omega) HBS.out ?_
        intro v9 w9 hown hgrow
        obtain ⟨g, cap9, rfl, hO, hb9⟩ := own64_of hown hgrow
        have HO := Lib.hid hO; have HB9 := Lib.hid hb9
        have HJ9 : Hid (J xs w9) := HJ.out _ _ _ none HJ1.out hgrow (fun r e => nomatch e)
        clear hown hgrow hO hb9
        refine hK _ _ ?_
        clear hK K
        try simp only [Act.put, List.setIfInBounds_toArray, List.set_cons_zero, List.set_cons_succ]
        obtain ⟨fn, tmps, assign, body, hy, hR⟩ := HY.out xs (x, g, cap9) w9 HJ9.out ⟨HO.out, HXD.out⟩ HLT.out
        have hy2 : (Instr.yield l #[.int .u64 x.tag, .slice (some ⟨g, 0, none⟩) 64 cap9]).run Try.prog w9 = .ok (.round l fn tmps assign body) w9 := hy
        clear hy
        refine wpAnyIn_ready (rs := [6]) (by kernel_rfl) (by simp) (AllReadyIn.cons (o := ⟨some 17, _, _, _, _, _⟩) rfl (fun K hK => ?_) AllReadyIn.nil)
        go_simp
        refine hR.mono ?_
        rintro e w10 ⟨rfl, hJ3, hk3⟩
        have HJ3 := Lib.hid hJ3
        have HK3 := Lib.hid ((HW1.out.2.trans (Turned.of_below HB9.out S) (fun _ => .inl)).trans hk3 (fun _ => .inl))
        clear hJ3 hk3
        refine hK _ _ ?_
        clear hK K
        refine wpAnyIn_take (i := 7) (oi := ⟨some 18, _, _, _, _, _⟩) (v := ?_) hro rfl (by kernel_rfl) (by kernel_rfl) (by kernel_rfl) (fun _ _ _ h => h) ⟨Or.inl ⟨by rfl, ?_⟩, fun _ => rfl⟩ ?_
        rotate_left 1
        · intro wq; first | (go_simp; done) | (go_simp; with_reducible rfl)
        try simp only [Act.put, List.setIfInBounds_toArray, List.set_cons_zero, List.set_cons_succ]
        refine wpAnyIn_done (by kernel_rfl) ?_ _
        gi_wp2
        refine ⟨⟨xs ++ [(x, g, cap9)], HX2.out g cap9, by simp; omega, by simp [HKJ.out], HJ3.out, HK3.out⟩, by simp [intOf]; omega⟩
      · refine step_append_in _ rfl (.const (.slice none 0 0)) (.tmp 15) 34 rfl n0 5 i0 (.int .u8 0) 1 1 Try.underlying34 HI0.out HZ0.out.1 HZ0.out.2.1 HZ0.out.2.2 rfl (by decide) (.slice none 0 0) 0 [] rfl (World.ownsRow_nil _ _ _ _) ⟨xb, 3, none⟩ 64 64 ((List.range 64).map fun q => Value.int .u8 (x.data q)) rfl HLN.out HS64.out HON.out HMX.out (by omega) HBS.out ?_
        intro v9 w9 hown hgrow
        obtain ⟨g, cap9, rfl, hO, hb9⟩ := own64_of hown hgrow
        have HO := Lib.hid hO; have HB9 := Lib.hid hb9
        have HJ9 : Hid (J xs w9) := HJ.out _ _ _ none HJ1.out hgrow (fun r e => nomatch e)
        clear hown hgrow hO hb9
        refine hK _ _ ?_
        clear hK K
        try simp only [Act.put, List.setIfInBounds_toArray, List.set_cons_zero, List.set_cons_succ]
        have c2 : w9.cell? ⟨xb, 2, none⟩ = some (.int .u64 x.tag) := (HB9.out.cell (p := ⟨xb, 2, none⟩) HW1.out.1).trans (HCL.out 2 (by omega))
        refine wpAnyIn_ready (rs := [2]) (by kernel_rfl) (by simp) (AllReadyIn.cons (o := ⟨some 13, _, _, _, _, _⟩) rfl (fun K hK => ?_) AllReadyIn.nil)
        go_simp
        refine hK _ _ ?_
        clear hK K
        try simp only [Act.put, List.setIfInBounds_toArray, List.set_cons_zero, List.set_cons_succ]
        obtain ⟨fn, tmps, assign, body, hy, hR⟩ := HY.out xs (x, g, cap9) w9 HJ9.out ⟨HO.out, HXD.out⟩ HLT.out
        have hy2 : (Instr.yield l #[.int .u64 x.tag, .slice (some ⟨g, 0, none⟩) 64 cap9]).run Try.prog w9 = .ok (.round l fn tmps assign body) w9 := hy
        clear hy
        refine wpAnyIn_ready (rs := [6]) (by kernel_rfl) (by simp) (AllReadyIn.cons (o := ⟨some 17, _, _, _, _, _⟩) rfl (fun K hK => ?_) AllReadyIn.nil)
        go_simp
        refine hR.mono ?_
        rintro e w10 ⟨rfl, hJ3, hk3⟩
        have HJ3 := Lib.hid hJ3
        have HK3 := Lib.hid ((HW1.out.2.trans (Turned.of_below HB9.out S) (fun _ => .inl)).trans hk3 (fun _ => .inl))
        clear hJ3 hk3
        refine hK _ _ ?_
        clear hK K
        refine wpAnyIn_take (i := 7) (oi := ⟨some 18, _, _, _, _, _⟩) (v := ?_) hro rfl (by kernel_rfl) (by kernel_rfl) (by kernel_rfl) (fun _ _ _ h => h) ⟨Or.inl ⟨by rfl, ?_⟩, fun _ => rfl⟩ ?_
        rotate_left 1
        · intro wq; first | (go_simp; done) | (go_simp; with_reducible rfl)
        try simp only [Act.put, List.setIfInBounds_toArray, List.set_cons_zero, List.set_cons_succ]
        refine wpAnyIn_done (by kernel_rfl) ?_ _
        gi_wp2
        refine ⟨⟨xs ++ [(x, g, cap9)], HX2.out g cap9, by simp; omega, by simp [HKJ.out], HJ3.out, HK3.out⟩, by simp [intOf]; omega⟩
    · obtain e : xs.length = d.length := by omega
      have hfin : xs.map (·.1) = d := by rw [HX1.out, e, List.take_length]
      gi_wp2
      go_end0
      exact ⟨⟨_, rfl⟩, xs, hfin, HJS.out⟩
end Go.Proofs.Ytlcedcjcecahoaa
