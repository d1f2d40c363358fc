/- ask: awake; AskPacks. No condition. -/
import Derived.Test.YtgchhmfobkcnfaaTa
import Derived.Test.YtgchhmfobkcnfaaAm19
import Derived.Test.YtgchhmfobkcnfaaOs
namespace Go.Proofs.Ytgchhmfobkcnfaa.A
open Go
set_option linter.unusedVariables false
set_option linter.unusedSimpArgs false
set_option maxRecDepth 100000
set_option pp.maxSteps 400

theorem q7_ok : rqB (q00 7) = true := (rq_iff _).2 ⟨by decide, rfl, fun f hf => by cases hf⟩
theorem awake_pack : ∃ X : ByteArray, strEq X ⟨#[7]⟩ = true ∧ ACalls Try.prog 8 [.agg (rqR nilS nilS (q00 7))] [] (Ret (.tup [str X, i64 0])) := by
  have h := pack_yes (q00 7) (q00_ok 7) q7_ok
  refine ⟨BA [7], strEq_iff.2 rfl, ?_⟩
  have hle := le_lac (b := false) (q := q00 7) (fun _ => rfl) rfl
  exact argsLe (ds := [.agg (q00 7).C]) ⟨fun X v hv => VR_agLe hle hv, True.intro⟩ h
def p14 : Rp := ⟨14, 0, false, false, ⟨#[]⟩, 0, [], 0, 0, 0, 0, 0⟩
theorem p14_ok : FitsB p14 = true := by
  have he : strEq ⟨#[]⟩ ⟨#[]⟩ = true := strEq_iff.2 rfl
  unfold FitsB
  rw [if_neg (by decide), if_neg (by decide)]
  show ((((0 : Nat) : Int) == 0) && ((!false) && (((false == false) && (strEq ⟨#[]⟩ ⟨#[]⟩ && ((((0 : Nat) : Int) == 0) && true))) && (zeroT p14 && true)))) = true
  rw [he]
  rfl
theorem awake_tell : ∃ X : ByteArray, X.size = 1 ∧ ACalls Try.prog 16 [.agg (rp0 14)] [] (Ret (.tup [str X, i64 0])) := by
  have h := tell_code p14 14 rfl (by decide) (by decide) (by decide) p14_ok
  refine ⟨BA [14], BA_size _, ?_⟩
  refine argsLe (ds := [.agg p14.C]) ⟨fun X v hv => VR_agLe (cs := rp0 14) ?_ hv, True.intro⟩ h
  refine ⟨?_, ?_, ?_, ?_, ?_, ?_, ?_, ?_, ?_, ?_, ?_, ?_, True.intro⟩
  all_goals first | exact fun _ _ h => h | exact fun _ _ h => VR_nilView h
theorem awake20_ok : ACalls Try.prog 6 [] [] (Ret (bo true)) := by
  obtain ⟨X, hX, h1⟩ := awake_pack
  obtain ⟨Y, hY, h2⟩ := awake_tell
  have hY' : ((Y.size : Nat) : Int) = 1 := by rw [hY]; rfl
  refine acalls_of_awp hT mixed Try.func6 rfl (by kernel_rfl) (by kernel_rfl) (Nat.le_of_ble_eq_true rfl) ?_
  refine callP h1 rfl rfl ?_
  refine callP h2 rfl rfl ?_
  refine fork (fun _ => ?_) (fun g => absurd hX (by rw [g]; decide))
  refine fork (fun _ => ?_) (fun g => absurd hY' (beq_eq_false_iff_ne.1 g))
  refine end0 rfl rfl rfl rfl
end Go.Proofs.Ytgchhmfobkcnfaa.A
