/- ask: awake; AskPacks. No condition. -/
import Derived.Test.YtgchhmfobkcnfaaTa
import Derived.Test.YtgchhmfobkcnfaaAm19
import Derived.Test.YtgchhmfobkcnfaaOs
namespace Go.Proofs.Ytgchhmfobkcnfaa.A
open Go
set_option linter.unusedVariables false
set_option linter.unusedSimpArgs false
set_option maxRecDepth 100000
set_option pp.maxSteps 400

theorem q7_ok : rqB (q00 7) = true := (rq_iff _).2 ⟨by decide, rfl, fun f hf => by cases hf⟩
theorem awake_pack : ∃ X : ByteArray, strEq X ⟨#[7]⟩ = true ∧ ACalls Try.prog 8 [.agg (rqR nilS nilS (q00 7))] [] (Ret (.tup [str X, i64 0])) := by
  have h := pack_yes (q00 7) (q00_ok 7) q7_ok
  refine ⟨BA [7], strEq_iff.2 rfl, ?_⟩
  have hle := le_lac (b := false) (q := q00 7) (fun _ => rfl) rfl
  exact argsLe (ds := [.agg (q00 7).C]) ⟨fun X v hv => VR_agLe hle hv, True.intro⟩ h
def p14 : Rp := ⟨14, 0, false, false, ⟨#[]⟩, 0, [], 0, 0, 0, 0, 0⟩
theorem p14_ok : FitsB p14 = true := by
  have he : strEq ⟨#[]⟩ ⟨#[]⟩ = true := strEq_iff.2 rfl
  unfold FitsB
  rw [if_neg (by decide), if_neg (by decide)]
  show ((((0 : Nat) : Int) == 0) && ((!false) && (((false == false) && (strEq ⟨#[]⟩ ⟨#[]⟩ && ((((0 : Nat) : Int) == 0) && true))) && (zeroT p14 && true)))) = true
  rw [he]
  rfl
theorem awake_tell : ∃ X : ByteArray, X.size = 1 ∧ ACalls Try.prog 16 [.agg (rp0 14)] [] (Ret (.tup [str X, i64 0])) := by
  have h := tell_code p14 14 rfl (by decide) (by decide) (by decide) p14_ok
  refine ⟨BA [14], BA_size _, ?_⟩
  refine argsLe (ds := [.agg p14.C]) ⟨fun X v hv => VR_agLe (cs := rp0 14) ?_ hv, True.intro⟩ h
  refine ⟨?_, ?_, ?_, ?_, ?_, ?_, ?_, ?_, ?_, ?_, ?_, ?_, True.intro⟩
  all_goals first | exact fun _ _ h => h | exact fun _ _ h => VR_nilView h
theorem awake20_ok : ACalls Try.prog 6 [] [] (Ret (bo true)) := by
  obtain ⟨X, hX, h1⟩ := awake_pack
  obtain ⟨Y, hY, h2⟩ := awake_tell
  have hY' : ((Y.size : Nat) : Int) = 1 := by rw [hY]; rfl
  refine acalls_of_awp hT mixed Try.func6 rfl (by kernel_rfl) (by kernel_rfl) (Nat.le_of_ble_eq_true rfl) ?_
  refine callP h1 rfl rfl ?_
  refine callP h2 rfl rfl ?_
  refine fork (fun _ => ?_) (fun g => absurd hX (by rw [g]; decide))
  refine fork (fun _ => ?_) (fun g => absurd hY' (beq_eq_false_iff_ne.1 g))
  refine end0 rfl rfl rfl rfl
theorem pkB_len {q : Rq} (h : q.ok) (hr : rqB q = true) : (pkB q).length ≤ 2200 := by
  obtain ⟨_, -, hnm⟩ := (rq_iff q).1 hr
  have := flat_len700 (q := q) (L := fldL q.k) fun x hx => fB_len h (by have := fldL_lt hx; omega) (hnm x hx)
  have hll := fldL_len q.k
  unfold pkB
  rw [List.length_cons]
  omega
theorem swf_codes {l : List AV} (h : Wf (.slice (.strct (.cons (.int .i64) (.cons (.int .u64) .none)))) l) : ∃ L : List (Int × Nat), l = [cdV L] ∧ (∀ c ∈ L, c.2 < 18446744073709551616) ∧ L.length ≤ 9223372036854775807 := by
  refine wf_flatR (f := cd) (Q := fun c => c.2 < 18446744073709551616) (fun r hr => ?_) h
  obtain ⟨_, _, rfl, ⟨i, rfl, _⟩, _, _, rfl, hb, rfl⟩ := hr
  obtain ⟨m, rfl, hm⟩ := wf_nat hb
  exact ⟨(i, m), rfl, hm⟩
theorem wf_rq {l : List AV} (h : Wf (.strct (.cons (.int .i64) (.cons (.int .i64) (.cons (.slice (.int .u64)) (.cons (.int .u64) (.cons .bool (.cons (.int .i64) (.cons .str (.cons (.strct (.cons .bool (.cons .str (.cons (.int .u64) .none)))) (.cons (.strct (.cons .str (.cons .str (.cons (.int .i64) .none)))) (.cons (.int .i64) (.cons (.slice (.strct (.cons (.int .i64) (.cons (.int .u64) .none)))) .none)))))))))))) l) : ∃ q : Rq, l = q.C ∧ ((60 < q.l.length ∨ 100 < q.c.length) ∨ q.ok) := by
  obtain ⟨_, _, rfl, ⟨k, rfl, _⟩, _, _, rfl, ⟨w, rfl, _⟩, _, _, rfl, hl, _, _, rfl, hg, _, _, rfl, ⟨m, rfl⟩, _, _, rfl, ⟨r, rfl, _⟩, _, _, rfl, ⟨key, rfl, _⟩, _, _, rfl, hv, _, _, rfl, hr, _, _, rfl, ⟨n, rfl, _⟩, _, _, rfl, hc, rfl⟩ := h
  obtain ⟨_, _, rfl, ⟨vn, rfl⟩, _, _, rfl, ⟨vt, rfl, _⟩, _, _, rfl, hb, rfl⟩ := hv
  obtain ⟨_, _, rfl, ⟨fr, rfl, _⟩, _, _, rfl, ⟨t, rfl, _⟩, _, _, rfl, ⟨lim, rfl, _⟩, rfl⟩ := hr
  obtain ⟨l, rfl, hx, hll⟩ := wf_nats hl
  obtain ⟨g, rfl, hg2⟩ := wf_nat hg
  obtain ⟨vb, rfl, hb2⟩ := wf_nat hb
  obtain ⟨c, rfl, hcb, hcl⟩ := swf_codes hc
  refine ⟨⟨k, w, l, g, m, r, key, vn, vt, vb, fr, t, lim, n, c⟩, rfl, ?_⟩
  by_cases h1 : 60 < l.length
  · exact .inl (.inl h1)
  by_cases h2 : 100 < c.length
  · exact .inl (.inr h2)
  exact .inr ⟨(by dsimp only; omega), hx, hg2, hb2, (by dsimp only; omega), hcb⟩
end Go.Proofs.Ytgchhmfobkcnfaa.A
