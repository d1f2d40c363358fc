/- record, the reference: items to the end. No condition. -/
import Derived.Test.YtkbpddejafdmdaaGreatRt
import Derived.Test.YtkbpddejafdmdaaGreatWy
namespace Go.Proofs.YtkbpddejafdmdaaGreat.A
open Go
set_option linter.unusedVariables false
set_option linter.unusedSimpArgs false
set_option maxRecDepth 100000
set_option pp.maxSteps 400

def whA (b : List Nat) (s : ByteArray) : AV := match begP b s with
  | .ok l m => if m = s.size then .tup [itsV l, bo true] else .tup [nilS, bo false]
  | .err _ => .tup [nilS, bo false]
theorem whole_ok (b s : ByteArray) (hn : b.size ≤ 60) (hs : s.size ≤ 1000000) : ACalls Tryz.prog 27 [str b, str s] [] (Ret (whA (byL b) s)) := by
  have hb := rbegin_ok b s hn hs
  unfold whA
  cases hp : begP (byL b) s with
  | err e =>
    rw [hp] at hb
    have he := begP_e hp
    refine acalls_of_awp hT mixed Tryz.func27 rfl (by kernel_rfl) (by kernel_rfl) (Nat.le_of_ble_eq_true rfl) ?_
    refine callP hb rfl rfl ?_
    refine fork (fun _ => ?_) (fun h => absurd (bne_eq_false_iff_eq.1 h) (by omega))
    refine end0 rfl rfl rfl rfl
  | ok l m =>
    rw [hp] at hb
    have hm := begP_le hp
    dsimp only
    by_cases hms : m = s.size
    · rw [if_pos hms]
      refine acalls_of_awp hT mixed Tryz.func27 rfl (by kernel_rfl) (by kernel_rfl) (Nat.le_of_ble_eq_true rfl) ?_
      refine callP hb rfl rfl ?_
      refine forkD (fun g => absurd (show (m : Int) < (s.size : Int) from g) (by omega)) (fun _ => ?_)
      refine end0 rfl rfl rfl rfl
    · rw [if_neg hms]
      refine acalls_of_awp hT mixed Tryz.func27 rfl (by kernel_rfl) (by kernel_rfl) (Nat.le_of_ble_eq_true rfl) ?_
      refine callP hb rfl rfl ?_
      refine forkD (fun _ => ?_) (fun g => absurd (show (m : Int) < (s.size : Int) by omega) g)
      refine end0 rfl rfl rfl rfl
def rdI (b : List Nat) (t : ByteArray) : Option (List It × Nat) := match begP b t with
  | .ok l m => some (l, m)
  | .err _ => none
def itmP (first : Nat) (b : List Nat) (s : ByteArray) : Option (Nat × List (List It)) :=
  match begP [98, 110] s with
  | .ok [.mk a _ _ _, .mk q _ _ _] m => if a = first then (manyP (rdI b) (rest s m).size (rest s m)).map fun L => (q, L) else none
  | _ => none
def itV (l : List It) : List AV := [itsV l]
theorem itV_len (l : List It) : (itV l).length = 1 := rfl
theorem itV_frz0 (H : Heap) (m k : Nat) (l : List It) : mapO (frz0 H m (k + 1)) (itV l) = some (itV l) := rfl
theorem renO_itV (r : Nat → Nat) (L : List (List It)) : renO r (.row (flat itV L)) = .row (flat itV L) := renO_flat (fun _ _ => rfl) r L
def ilV (L : List (List It)) : AV := .view L.length (flat itV L)
def imA (o : Option (Nat × List (List It))) : AV := match o with
  | some (q, L) => .tup [u64n q, ilV L, bo true]
  | none => .tup [u64 0, nilS, bo false]
structure ImSt (b : List Nat) (s : ByteArray) (M : Option (List (List It))) where
  L : List (List It)
  p : Nat
  n : Nat
  hn : (rest s p).size ≤ n
  hp : p ≤ s.size
  hL : L.length + n ≤ 1000000
  eq : M = (manyP (rdI b) n (rest s p)).map (L ++ ·)
theorem items_ok (s b : ByteArray) (first : Nat) {p0 : Nat × Bool} {L0 : List (Nat × Bool)} (hb : b.size ≤ 60) (hsh : shP (byL b) = some (p0 :: L0)) (hf : first ≤ 255) (hs : s.size ≤ 1000000) : ACalls Tryz.prog 23 [str s, u8n first, str b] [] (Ret (imA (itmP first (byL b) s))) := by
  have hc := rbegin_ok ⟨#[98, 110]⟩ s (by decide) hs
  rw [show byL ⟨#[98, 110]⟩ = [98, 110] from rfl] at hc
  have hwf : wrp .u64 ((first : Nat) : Int) = ((first : Nat) : Int) := num_w (by omega)
  unfold itmP
  cases hp : begP [98, 110] s with
  | err e =>
    rw [hp] at hc
    have he := begP_e hp
    refine acalls_of_awp hT mixed Tryz.func23 rfl (by kernel_rfl) (by kernel_rfl) (Nat.le_of_ble_eq_true rfl) ?_
    refine callP hc rfl rfl ?_
    refine fork (fun _ => ?_) (fun h => absurd (bne_eq_false_iff_eq.1 h) (by omega))
    refine end0 rfl rfl rfl rfl
  | ok l m =>
    rw [hp] at hc
    have hl := begP_length sh_bn hp
    have hm := begP_le hp
    match l, hl with
    | [.mk a s1 l1 k1, .mk q s2 l2 k2], _ =>
      dsimp only
      have h02 : (0 : Int) ≤ 0 ∧ (0 : Int) < ((2 : Nat) : Int) := by omega
      have h12 : (0 : Int) ≤ 1 ∧ (1 : Int) < ((2 : Nat) : Int) := by omega
      by_cases ha : a = first
      · rw [if_pos ha]
        have hM : ∃ M, M = manyP (rdI (byL b)) (rest s m).size (rest s m) := ⟨_, rfl⟩
        obtain ⟨M, hM⟩ := hM
        rw [← hM]
        have hsl : (0 : Int) ≤ (m : Nat) ∧ ((m : Nat) : Int) ≤ (s.size : Int) ∧ (s.size : Int) ≤ (s.size : Int) := by omega
        refine acalls_of_awp hT mixed Tryz.func23 rfl (by kernel_rfl) (by kernel_rfl) (Nat.le_of_ble_eq_true rfl) ?_
        refine callP hc rfl rfl ?_
        refine Ob.intro h02 ?_
        refine fork (fun g => absurd (show (a : Int) = wrp .u64 (first : Int) by rw [hwf, ha]) (bne_iff_ne.1 g)) (fun _ => ?_)
        refine Ob.intro hsl ?_
        refine loopI (α := ImSt (byL b) s M) (fun x => [(0, str (rest s x.p)), (2, str b), (9, itsV [.mk a s1 l1 k1, .mk q s2 l2 k2]), (12, .slc 0 0 x.L.length 1)]) (fun x => [.row (flat itV x.L)]) (fun x => x.n)
          ⟨[], m, (rest s m).size, Nat.le_refl _, hm, by rw [rest_size]; simp only [List.length_nil]; omega, by rw [hM]; cases manyP (rdI (byL b)) (rest s m).size (rest s m) <;> rfl⟩ [0] ⟨⟨rfl, rfl, rfl, rfl, True.intro⟩, ⟨.inl rfl, True.intro⟩, rfl, rfl, rfl⟩ ?_
        rintro ⟨L, p, n, hn, hpp, hL, eq⟩ K hK
        dsimp only at hn hL eq ⊢
        refine forkD (fun g => ?_) (fun g => ?_)
        · have hz : (rest s p).size ≠ 0 := by have : ((rest s p).size : Int) > 0 := g; omega
          have hi := rbegin_ok b (rest s p) hb (by rw [rest_size]; omega)
          cases hbp : begP (byL b) (rest s p) with
          | err e =>
            rw [hbp] at hi
            have he := begP_e hbp
            rw [manyP_none hz (by unfold rdI; rw [hbp])] at eq
            have eq' : M = none := by rw [eq]; rfl
            rw [eq']
            refine callP hi rfl rfl ?_
            refine fork (fun _ => ?_) (fun h => absurd (bne_eq_false_iff_eq.1 h) (by omega))
            refine end0 rfl rfl rfl rfl
          | ok l k =>
            rw [hbp] at hi
            have hwp : rdI (byL b) (rest s p) = some (l, k) := by unfold rdI; rw [hbp]
            have hk0 := begP_pos hsh hbp
            have hk1 := begP_le hbp
            rw [rest_size] at hk1 hn hz
            obtain ⟨n, rfl⟩ : ∃ n', n = n' + 1 := ⟨n - 1, by omega⟩
            rw [manyP_some (by rw [rest_size]; exact hz) hwp, map_snoc, rest_rest] at eq
            have hob : (L.length + 1) * 24 ≤ 140737488355328 ∧ L.length + 1 ≤ 9223372036854775807 := by omega
            have hsl2 : (0 : Int) ≤ (k : Nat) ∧ ((k : Nat) : Int) ≤ ((rest s p).size : Int) ∧ ((rest s p).size : Int) ≤ ((rest s p).size : Int) := by rw [rest_size]; omega
            refine callP hi rfl rfl ?_
            refine Ob.intro rfl ?_
            refine optK_intro (rdN_all (cs := flat itV L) rfl (by rw [flat_len itV_len])) ?_
            refine Ob.intro hob ?_
            refine Ob.intro hsl2 ?_
            refine hK ⟨L ++ [l], p + k, n, by rw [rest_size]; omega, by omega, by rw [List.length_append]; simp only [List.length_cons, List.length_nil]; omega, eq⟩ [2] _ rfl ⟨⟨congrArg str (rest_rest s p k), rfl, rfl, ?_, True.intro⟩, ⟨.inl ?_, True.intro⟩, rfl, rfl, rfl⟩
            · show AV.slc 2 0 (L.length + 1) 1 = .slc 2 0 (L ++ [_]).length 1
              rw [List.length_append]
              rfl
            · show some (AObj.row (flat itV L ++ itV l)) = some (renO _ (.row (flat itV (L ++ [_]))))
              rw [renO_itV, flat_append]
              rfl
        · have hz : (rest s p).size = 0 := by have : ¬ ((rest s p).size : Int) > 0 := g; omega
          rw [manyP_end hz] at eq
          have eq' : M = some L := by rw [eq]; simp
          rw [eq']
          refine Ob.intro h12 ?_
          refine end0 rfl rfl ?_ rfl
          have hfz : frz [.row (flat itV L)] 0 7 (.slc 0 0 L.length 1) = some (ilV L) := frz_flatG (m := 0) (k := 5) itV_len itV_frz0 rfl rfl rfl
          exact frz_tup (k := 7) (show mapO (frz [.row (flat itV L)] 0 7) [u64n q, .slc 0 0 L.length 1, bo true] = some [u64n q, ilV L, bo true] from by simp only [mapO, hfz]; rfl)
      · rw [if_neg ha]
        refine acalls_of_awp hT mixed Tryz.func23 rfl (by kernel_rfl) (by kernel_rfl) (Nat.le_of_ble_eq_true rfl) ?_
        refine callP hc rfl rfl ?_
        refine Ob.intro h02 ?_
        refine fork (fun _ => ?_) (fun g => absurd (show a = first by have : (a : Int) = wrp .u64 (first : Int) := bne_eq_false_iff_eq.1 g; rw [hwf] at this; omega) ha)
        refine end0 rfl rfl rfl rfl
end Go.Proofs.YtkbpddejafdmdaaGreat.A
