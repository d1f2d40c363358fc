/- The functions of sector: stamps, sectors. No condition. -/
import Derived.Test.YtipinhlfajmghaaSa
namespace Go.Proofs.Ytipinhlfajmghaa.A
open Go
set_option linter.unusedVariables false
set_option maxRecDepth 100000
set_option pp.maxSteps 1500

def stampA (g ix l p ps : Int) : AV := .agg [i64 g, i64 ix, i64 l, i64 p, i64 ps]
def rightP (g ix l p ps : Int) : Prop := (1 ≤ g ∧ g ≤ 2147483647) ∧ (1 ≤ l ∧ l ≤ 2147483647) ∧ (0 ≤ ix ∧ ix ≤ 127) ∧ (1 ≤ ps ∧ ps ≤ 128) ∧ (0 ≤ p ∧ p ≤ ps - 1)
instance (g ix l p ps : Int) : Decidable (rightP g ix l p ps) := by unfold rightP; infer_instance
theorem right_ok (g ix l p ps : Int) (h0 : -9223372036854775808 ≤ ps) (h1 : ps ≤ 9223372036854775807) : ACalls Try.prog 9 [stampA g ix l p ps] [] (Ret (bo (decide (rightP g ix l p ps)))) := by
  refine acalls_of_awp hT mixed Try.func9 rfl (by kernel_rfl) (by kernel_rfl) (Nat.le_of_ble_eq_true rfl) ?_
  refine callP (within_ok g 1 2147483647) rfl rfl ?_
  refine fork (fun a => ?_) (fun a => ?_)
  · refine callP (within_ok l 1 2147483647) rfl rfl ?_
    refine fork (fun b => ?_) (fun b => ?_)
    · refine callP (within_ok ix 0 127) rfl rfl ?_
      refine fork (fun c => ?_) (fun c => ?_)
      · refine callP (within_ok ps 1 128) rfl rfl ?_
        refine fork (fun d => ?_) (fun d => ?_)
        · refine callP (within_ok p 0 (wrp .i64 (ps - 1))) rfl rfl ?_
          have e1 : wrp .i64 (ps - 1) = ps - 1 := by
            have := (of_decide_eq_true d).1
            rw [wrpE, wi64]
            omega
          refine fork (fun e => ?_) (fun e => ?_)
          · refine end0 rfl rfl rfl (congrArg bo (decide_eq_true ⟨of_decide_eq_true a, of_decide_eq_true b, of_decide_eq_true c, of_decide_eq_true d, ?_⟩).symm)
            have := of_decide_eq_true e
            rw [e1] at this
            exact this
          · refine end0 rfl rfl rfl (congrArg bo (decide_eq_false fun h => of_decide_eq_false e ?_).symm)
            rw [e1]
            exact h.2.2.2.2
        · refine end0 rfl rfl rfl (congrArg bo (decide_eq_false fun h => of_decide_eq_false d h.2.2.2.1).symm)
      · refine end0 rfl rfl rfl (congrArg bo (decide_eq_false fun h => of_decide_eq_false c h.2.2.1).symm)
    · refine end0 rfl rfl rfl (congrArg bo (decide_eq_false fun h => of_decide_eq_false b h.2.1).symm)
  · refine end0 rfl rfl rfl (congrArg bo (decide_eq_false fun h => of_decide_eq_false a h.1).symm)
theorem text_u8s : ∀ l : List Int, textA (u8s l) = some (l.map fun n => UInt8.ofNat n.toNat)
  | [] => rfl
  | n :: l => by
    have := text_u8s l
    simp only [u8s, List.map_cons, textA] at this ⊢
    rw [this]
    rfl
def bytesI (s : ByteArray) : List Int := s.data.toList.map fun b => ((b.toNat : Nat) : Int)
theorem bytesA_u8s (s : ByteArray) : bytesA s = u8s (bytesI s) := by simp [bytesA, u8s, bytesI]
noncomputable def packL (g ix l p ps : Int) (d : ByteArray) : List Int :=
  [193] ++ putL g 4 4 ++ putL ix 2 2 ++ putL l 4 4 ++ [wrp .u8 p, wrp .u8 ps, wrp .u8 d.size] ++ bytesI d ++ List.replicate (50 - d.size) 0
theorem zeros_u8s (n : Nat) : zerosA (.int .u8 0) n = u8s (List.replicate n 0) := by
  induction n with
  | zero => rfl
  | succ n ih =>
    have : zerosA (.int .u8 0) (n + 1) = [.sc (.int .u8 0)] ++ zerosA (.int .u8 0) n := by simp [zerosA, List.replicate_succ]; rfl
    rw [this, ih]
    rfl
theorem srcA_slc (H : Heap) (sz p off len : Nat) : srcA H sz (.slc p off len sz) = rdN H p off (len * sz) := by simp [srcA]
theorem pack_ok (g ix l p ps : Int) (d : ByteArray) (h0 : -9223372036854775808 ≤ ps) (h1 : ps ≤ 9223372036854775807) :
    ACalls Try.prog 8 [stampA g ix l p ps, str d] [] (Ret (.tup (if rightP g ix l p ps then (if d.size ≤ 50 then [str ⟨((packL g ix l p ps d).map fun n => UInt8.ofNat n.toNat).toArray⟩, i64 0] else [str ⟨#[]⟩, i64 5]) else [str ⟨#[]⟩, i64 1]))) := by
  refine acalls_of_awp hT mixed Try.func8 rfl (by kernel_rfl) (by kernel_rfl) (Nat.le_of_ble_eq_true rfl) ?_
  refine callP (right_ok g ix l p ps h0 h1) rfl rfl ?_
  refine fork (fun a => ?_) (fun a => ?_)
  · have a := of_decide_eq_true a
    refine forkD (fun b => ?_) (fun b => ?_)
    · refine end0 rfl rfl rfl ?_
      have b' : ¬ d.size ≤ 50 := by
        have : (d.size : Int) > 50 := b
        omega
      rw [if_pos a, if_neg b']
      rfl
    · have b' : d.size ≤ 50 := by
        have : ¬ (d.size : Int) > 50 := b
        omega
      rw [if_pos a, if_pos b']
      refine callH (put_ok [193] g 4 (by decide) (by decide) (by decide)) [1] rfl ⟨.inl rfl, True.intro⟩ rfl rfl (H' := [.row [i64 g, i64 ix, i64 l, i64 p, i64 ps], .dead, .row (u8s ([193] ++ putL g 4 4))]) (by simp only [renH, renO, renL_u8s]; rfl) ?_
      refine callH (put_ok ([193] ++ putL g 4 4) ix 2 (by decide) (by decide) (by simp [putL_length])) [2] rfl ⟨.inl (by simp only [renO, renL_u8s]; rfl), True.intro⟩ rfl rfl (H' := [.row [i64 g, i64 ix, i64 l, i64 p, i64 ps], .dead, .dead, .row (u8s ([193] ++ putL g 4 4 ++ putL ix 2 2))]) (by simp only [renH, renO, renL_u8s]; rfl) ?_
      refine callH (put_ok ([193] ++ putL g 4 4 ++ putL ix 2 2) l 4 (by decide) (by decide) (by simp [putL_length])) [3] rfl ⟨.inl (by simp only [renO, renL_u8s]; rfl), True.intro⟩ rfl rfl (H' := [.row [i64 g, i64 ix, i64 l, i64 p, i64 ps], .dead, .dead, .dead, .row (u8s ([193] ++ putL g 4 4 ++ putL ix 2 2 ++ putL l 4 4))]) (by simp only [renH, renO, renL_u8s]; rfl) ?_
      have l1 : (u8s ([193] ++ putL g 4 4 ++ putL ix 2 2 ++ putL l 4 4)).length = 11 := by simp [u8s_length, putL_length]
      refine Ob.intro rfl ?_
      refine Ob.intro (by show (11 + 3) * 1 ≤ 140737488355328 ∧ 11 + 3 ≤ 9223372036854775807; decide) ?_
      refine Ob.intro (by rw [bytesA_u8s]; exact allC_u8s _) ?_
      refine Ob.intro (by show (14 + d.size) * 1 ≤ _ ∧ 14 + d.size ≤ _; omega) ?_
      have lb : (bytesA d).length = d.size := by rw [bytesA_u8s, u8s_length]; simp [bytesI]
      have m1 : wrp .i64 (64 - ((14 + d.size : Nat) : Int)) = ((50 - d.size : Nat) : Int) := by rw [wrpE, wi64]; omega
      refine Ob.intro (show 0 ≤ wrp .i64 (64 - ((14 + d.size : Nat) : Int)) ∧ wrp .i64 (64 - ((14 + d.size : Nat) : Int)) ≤ 140737488355328 ∧ wrp .i64 (64 - ((14 + d.size : Nat) : Int)) * ((1 : Nat) : Int) ≤ 140737488355328 by rw [m1]; omega) ?_
      have hq : ∀ (r1 : List AV), r1.length = 14 → (14 + d.size) * 1 = (r1 ++ bytesA d).length := fun r1 h => by rw [List.length_append, h, lb, Nat.mul_one]
      refine optK_intro (rdN_all rfl (hq _ rfl)) ?_
      refine Ob.intro (show (14 + d.size + (wrp .i64 (64 - ((14 + d.size : Nat) : Int))).toNat) * 1 ≤ 140737488355328 ∧ 14 + d.size + (wrp .i64 (64 - ((14 + d.size : Nat) : Int))).toNat ≤ 9223372036854775807 by rw [m1]; omega) ?_
      have hz : ∀ (r1 : List AV), r1.length = 14 → (14 + d.size + (wrp .i64 (64 - ((14 + d.size : Nat) : Int))).toNat) * 1 = (r1 ++ bytesA d ++ zerosA (.int .u8 0) (wrp .i64 (64 - ((14 + d.size : Nat) : Int))).toNat).length := fun r1 h => by
        rw [List.length_append, List.length_append, h, lb, zeros_u8s, u8s_length, List.length_replicate, Nat.mul_one]
      refine optK_intro (a := u8s (packL g ix l p ps d)) ?_ (optK_intro (text_u8s _) ?_)
      · refine (srcA_slc _ _ _ _ _).trans ((rdN_all rfl (hz _ rfl)).trans (congrArg some ?_))
        show (u8s ([193] ++ putL g 4 4 ++ putL ix 2 2 ++ putL l 4 4 ++ [wrp .u8 p, wrp .u8 ps, wrp .u8 d.size]) ++ bytesA d) ++ zerosA (.int .u8 0) (wrp .i64 (64 - ((14 + d.size : Nat) : Int))).toNat = _
        rw [m1, bytesA_u8s, zeros_u8s, u8s_append, u8s_append]
        rfl
      · refine end0 rfl rfl rfl ?_
        rfl
  · refine end0 rfl rfl rfl ?_
    rw [if_neg (of_decide_eq_false a)]
    rfl
end Go.Proofs.Ytipinhlfajmghaa.A
