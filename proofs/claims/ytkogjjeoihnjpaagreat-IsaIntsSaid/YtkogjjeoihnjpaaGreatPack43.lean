/- decode.Decode as a contract that goes two ways: is it an access to minstret, or none. No condition. -/
import Derived.Test.YtkogjjeoihnjpaaGreatPack17
import Derived.Test.YtkogjjeoihnjpaaGreatPack21
section
set_option linter.unusedVariables false
namespace Go.Proofs.YtkogjjeoihnjpaaGreat.Sx
open Go Go.RowKit
noncomputable section
def forkD (r : SV × Hp) : XR :=
  match r.1 with
  | .pv (.agg l) => (match l, l.drop 10 with
    | .int _ op :: _, [.int _ cs] => xif (.cmp .eql op (ln 19)) r.2 (fun hp => xif (.cmp .eql cs (ln 2818)) hp (fun hp => .ret (r.1, hp)) (fun hp => .ret (r.1, hp))) (fun hp => .ret (r.1, hp))
    | _, _ => .ret r)
  | _ => .ret r
theorem forkD_ok {C : Ctx} {w : World} {Φ : Env → SV × Hp → Prop} {v : Value} {sv : SV} {hp : Hp} (hr : sv.rel C v) (h : HRel C hp w) (hx : (forkD (sv, hp)).holds Φ C.V) : ∃ hp', HRel C hp' w ∧ Φ C.V (sv, hp') := by
  unfold forkD at hx
  simp only at hx
  split at hx
  · rename_i l
    split at hx
    · rename_i k op rest k' cs hd
      obtain ⟨vs, hrel, _⟩ := hr
      have hm : ∀ c ∈ SC.int k op :: rest, ∃ u, c.rel C u := fun c hc => by
        obtain ⟨i, hi⟩ := List.getElem?_of_mem hc
        obtain ⟨u, _, hu⟩ := hrel.get i c hi
        exact ⟨u, hu⟩
      obtain ⟨_, s1, _⟩ := hm _ List.mem_cons_self
      obtain ⟨_, s2, _⟩ := hm (.int k' cs) (List.mem_of_mem_drop (i := 10) (by rw [hd]; exact List.mem_cons_self))
      obtain ⟨hp1, h1, _, _, _, _, _, _, t1, e1⟩ := xif_holds (c := .cmp .eql op (ln 19)) h (show _ ∧ _ from ⟨s1, trivial⟩) hx
      cases hb : (E.cmp .eql op (ln 19)).tr C.V with
      | false => exact ⟨hp1, h1, e1 hb⟩
      | true =>
        obtain ⟨hp2, h2, _, _, _, _, _, _, t2, e2⟩ := xif_holds (c := .cmp .eql cs (ln 2818)) h1 (show _ ∧ _ from ⟨s2, trivial⟩) (t1 hb)
        cases hb2 : (E.cmp .eql cs (ln 2818)).tr C.V with
        | false => exact ⟨hp2, h2, e2 hb2⟩
        | true => exact ⟨hp2, h2, t2 hb2⟩
    · exact ⟨hp, h, hx⟩
  · exact ⟨hp, h, hx⟩
def decFork : Orc := fun f args hp =>
  match decO f args hp with
  | some t => some (t.bind forkD)
  | none => none
theorem decFork_ok (X : Ext) (ft : Ft) (h : ft 16 = decF) : OrcOk Tryz.prog X ft decFork := by
  intro f args hp t h0 C w vs hC hH hv Φ hx
  unfold decFork at h0
  split at h0
  · rename_i t0 ht
    cases h0
    rw [T.holds_bind] at hx
    refine (decO_ok X ft h f args hp t0 ht C w vs hC hH hv _ hx).mono ?_
    rintro e w' ⟨C', v, sv, hp', rfl, hrel, hH', hK, hb⟩
    obtain ⟨hp2, k1, k2⟩ := forkD_ok hrel hH' hb
    exact ⟨C', v, sv, hp2, rfl, hrel, k1, hK, k2⟩
  · cases h0
end
end Go.Proofs.YtkogjjeoihnjpaaGreat.Sx
end
