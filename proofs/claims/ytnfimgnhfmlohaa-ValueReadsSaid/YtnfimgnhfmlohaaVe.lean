/- The laws of value, by the functions that they call. No condition. -/
import Derived.Test.YtnfimgnhfmlohaaVd
namespace Go.Proofs.Ytnfimgnhfmlohaa.A
open Go
set_option linter.unusedVariables false
set_option maxRecDepth 100000
set_option pp.maxSteps 1500

theorem placeB_bits (c : Nat) : placeB (bitsB c) = placeB c := by
  unfold bitsB
  cases hn : nanB c
  · simp
  · have hc : nanB 9221120237041090561 = true := by decide
    simp [placeB, hn, hc]
theorem strEq_self (x : ByteArray) : strEq x x = true := strEq_iff.2 rfl
theorem strEq_nilT : strEq nilT ⟨#[]⟩ = true := strEq_iff.2 rfl
theorem rightV_num {t : ByteArray} {b : Nat} (h1 : t.size = 0) (h2 : bitsB b = b) : rightV true t b = true := by simp [rightV, h1, h2]
theorem rightV_txt {t : ByteArray} {b : Nat} (h1 : b = 0) (h2 : t.size ≤ 64) : rightV false t b = true := by simp [rightV, h1, h2]
theorem hd1_cons {c : UInt8} {s : ByteArray} (h : hd1 c s = true) : s.data.toList = c :: (s.extract 1 s.size).data.toList := by
  rw [exl, ← size_list]
  simp only [hd1, beq_iff_eq] at h
  cases hl : s.data.toList with
  | nil => rw [hl] at h; cases h
  | cons x l =>
    rw [hl] at h
    have : x = c := by simpa using h
    subst this
    simp
/-- What is read has these bytes, and may be. -/
theorem up_right {s : ByteArray} {n : Bool} {t : ByteArray} {b : Nat} (h : upV s = (n, t, b, 0)) : b < 18446744073709551616 ∧ rightV n t b = true ∧ packV n t b = s := by
  unfold upV at h
  split at h
  · cases h
  · split at h
    · rename_i h1
      split at h
      · rename_i h2
        simp only [Prod.mk.injEq] at h
        obtain ⟨rfl, rfl, rfl, _⟩ := h
        rcases ukE_cases (s.extract 1 s.size) with ⟨h3, _⟩ | ⟨_, h3⟩
        · obtain ⟨h4, h5⟩ := of_decide_eq_true h3
          refine ⟨bitsB_lt (ukB_lt _), ?_, ?_⟩
          · exact rightV_num rfl (bitsB_bitsB _)
          · refine ba_ext ?_
            rw [packV_list, if_pos rfl, placeB_bits, hd1_cons h1]
            generalize s.extract 1 s.size = r at *
            have hB : ukB r = atB (valL r.data.toList) := by unfold ukB; rw [if_pos h2]
            rw [hB, placeB_atB h5, keyL_valL ((size_list _).trans h4)]
        · rw [h3] at h2; cases h2
      · cases h
    · split at h
      · rename_i h1
        simp only [Prod.mk.injEq] at h
        obtain ⟨rfl, rfl, rfl, _⟩ := h
        refine ⟨by decide, ?_, ?_⟩
        · have := ext1_size s
          exact rightV_txt rfl (by omega)
        · refine ba_ext ?_
          rw [packV_list, if_neg (by decide), hd1_cons h1.1]
      · cases h
theorem valuePacks_no (n : Bool) (t : ByteArray) (b : Nat) (z : ByteArray) (hz : strEq z ⟨#[]⟩ = true) (p1 : ACalls Try.prog 18 [val n t b] [] (Ret (.tup [str z, i64 1])))
    (p2 : ACalls Try.prog 19 [val n t b] [] (Ret (bo false))) (p3 : ACalls Try.prog 14 [val n t b] [] (Ret (bo false))) (p4 : ACalls Try.prog 20 [val n t b] [] (Ret (i64 0))) :
    ACalls Try.prog 5 [val n t b] [] (Ret (bo true)) := by
  cases n <;>
  · refine acalls_of_awp hT mixed Try.func5 rfl (by kernel_rfl) (by kernel_rfl) (Nat.le_of_ble_eq_true rfl) ?_
    refine callP awakeV_ok rfl rfl ?_
    refine forkD (fun h => end0 rfl rfl rfl rfl) (fun h => ?_)
    refine callP p1 rfl rfl ?_
    refine ⟨[0, 1, 0, 2, 2], [[], [0], [], [0, 1, 2], [0, 1, 2, 3]], [0, 0, 0, 0, 0], [1, 3], [[1], [18], [1], [20], [19, 21]], Ob.intro (by kernel_rfl) ?_⟩
    repeat refine same ?_
    refine callP p2 rfl rfl ?_
    repeat refine same ?_
    refine callP p3 rfl rfl ?_
    repeat refine same ?_
    refine callP p3 rfl rfl ?_
    refine fork (fun g => ?_) (fun g => by rw [hz] at g; cases g)
    refine callP p4 rfl rfl ?_
    refine end0 rfl rfl rfl rfl
theorem valuePacks_ok (n : Bool) (t : ByteArray) (b : Nat) (hb : b < 18446744073709551616) (ht : t.size ≤ 300) : ACalls Try.prog 5 [val n t b] [] (Ret (bo true)) := by
  have p1 := pack_ok n t b hb
  have p2 := right_ok n t b
  have p3 := rRight_ok n t b hb
  have p4 := weight_ok n t b hb
  have p5 := rPack_ok n t b hb (by omega)
  by_cases hr : rightV n t b = true
  · have p6 := unpack_ok (packV n t b)
    simp only [upR, up_pack hb hr] at p6
    rw [hr] at p2 p3
    rw [if_pos hr] at p1 p4
    clear hr
    generalize packV n t b = s at *
    cases n <;>
    · refine acalls_of_awp hT mixed Try.func5 rfl (by kernel_rfl) (by kernel_rfl) (Nat.le_of_ble_eq_true rfl) ?_
      refine callP awakeV_ok rfl rfl ?_
      refine forkD (fun h => end0 rfl rfl rfl rfl) (fun h => ?_)
      refine callP p1 rfl rfl ?_
      refine ⟨[0, 1, 0, 2, 2], [[], [0], [], [0, 1, 2], [0, 1, 2, 3]], [0, 0, 0, 0, 0], [1, 3], [[1], [18], [1], [20], [19, 21]], Ob.intro (by kernel_rfl) ?_⟩
      repeat refine same ?_
      refine callP p2 rfl rfl ?_
      repeat refine same ?_
      refine callP p3 rfl rfl ?_
      repeat refine same ?_
      refine callP p3 rfl rfl ?_
      refine callP p6 rfl rfl ?_
      refine callP p5 rfl rfl ?_
      refine fork (fun g => ?_) (fun g => by simp [strEq_self, strEq_nilT] at g)
      refine fork (fun g => ?_) (fun g => by simp [strEq_self, strEq_nilT] at g)
      refine callP p4 rfl rfl ?_
      refine fork (fun g => ?_) (fun g => by simp [strEq_self, strEq_nilT] at g)
      refine end0 rfl rfl rfl rfl
  · rw [if_neg hr] at p1 p4
    rw [Bool.eq_false_iff.2 hr] at p2 p3
    clear hr p5
    exact valuePacks_no n t b nilT strEq_nilT p1 p2 p3 p4
theorem valueReads_ok (s : ByteArray) : ACalls Try.prog 6 [str s] [] (Ret (bo true)) := by
  have p1 := unpack_ok s
  have p2 := rUnpack_ok s
  unfold upR at p1 p2
  rcases hq : upV s with ⟨n, t, b, e⟩
  rw [hq] at p1 p2
  have p3 : e = 0 → ACalls Try.prog 18 [val n t b] [] (Ret (.tup [str s, i64 0])) := fun he => by
    subst he
    obtain ⟨h1, h2, h3⟩ := up_right hq
    have := pack_ok n t b h1
    rw [if_pos h2, h3] at this
    exact this
  clear hq
  cases n <;>
  · refine acalls_of_awp hT mixed Try.func6 rfl (by kernel_rfl) (by kernel_rfl) (Nat.le_of_ble_eq_true rfl) ?_
    refine callP awakeV_ok rfl rfl ?_
    refine forkD (fun h => end0 rfl rfl rfl rfl) (fun h => ?_)
    refine callP p1 rfl rfl ?_
    refine callP p2 rfl rfl ?_
    refine fork (fun g => by simp [strEq_self, strEq_nilT] at g) (fun g => ?_)
    refine fork (fun g => by simp [strEq_self, strEq_nilT] at g) (fun g => ?_)
    refine fork (fun g => end0 rfl rfl rfl rfl) (fun g => ?_)
    have he : e = 0 := by simpa using g
    subst he
    refine callP (p3 rfl) rfl rfl ?_
    refine fork (fun g => ?_) (fun g => by simp [strEq_self, strEq_nilT] at g)
    refine end0 rfl rfl rfl rfl
theorem valueMakes_ok (m : Nat) (s : ByteArray) (n : Bool) (t : ByteArray) (b : Nat) (hm : m < 18446744073709551616) (hb : b < 18446744073709551616) :
    ACalls Try.prog 3 [u64 m, str s, val n t b] [] (Ret (bo true)) := by
  have p1 := number_ok m
  have p2 := float_ok true nilT (bitsB m)
  rw [if_pos (by rw [Bool.true_and]; exact rightV_num rfl (bitsB_bitsB m)), bitsB_bitsB] at p2
  have p3 := bytes_ok s
  have p4 := float_ok n t b
  have p5 := rRight_ok n t b hb
  have p6 := rBits_ok m hm
  have h00 : (ordr .f64 0 0 == some .eq) = true := by rw [ordr_eq]; decide
  have hbb : rightV true t b = true → bitsB b = b := fun h => (right_bits h).2
  generalize bitsB m = c at *
  obtain ⟨r, hr⟩ : ∃ r, rightV n t b = r := ⟨_, rfl⟩
  rw [hr] at p4 p5
  by_cases hl : 64 < s.size
  · rw [if_pos hl] at p3
    cases r <;> cases n <;>
    · refine acalls_of_awp hT mixed Try.func3 rfl (by kernel_rfl) (by kernel_rfl) (Nat.le_of_ble_eq_true rfl) ?_
      refine callP awakeV_ok rfl rfl ?_
      refine forkD (fun h => end0 rfl rfl rfl rfl) (fun h => ?_)
      refine forkD (fun h => end0 rfl rfl rfl rfl) (fun h => ?_)
      refine callP (float64frombits_ok m) rfl rfl ?_
      refine callP p1 rfl rfl ?_
      refine callP p2 rfl rfl ?_
      refine callP p3 rfl rfl ?_
      refine ⟨[0, 0, 1, 1, 1, 1, 1, 1, 1, 1, 1, 2, 1, 3, 3, 3], [[], [], [1], [1, 2], [0, 1, 2, 3], [0, 1, 2, 3, 4], [0, 1, 2, 3, 4, 5], [0, 1, 2, 3, 4, 5, 6], [0, 1, 2, 3, 4, 5, 6, 7], [0, 1, 2, 3, 4, 5, 6, 7, 8], [0, 1, 2, 3, 4, 5, 6, 7, 8, 9], [0, 1, 2, 3, 4, 5, 6, 7, 8, 9, 10], [0, 1, 2, 3, 4, 5, 6, 7, 8, 9], [0, 1, 2, 3, 4, 5, 6, 7, 8, 9, 10, 11, 12], [0, 1, 2, 3, 4, 5, 6, 7, 8, 9, 10, 11, 12, 13], [0, 1, 2, 3, 4, 5, 6, 7, 8, 9, 10, 11, 12, 13, 14]], [0, 0, 0, 0, 0, 0, 0, 0, 0, 0, 0, 0, 0, 0, 0, 0], [2, 11, 13], [[8], [7], [41], [42], [40, 43], [44], [10, 45], [46, 45], [45, 47], [48], [9, 49], [50, 49], [7, 49], [52, 49], [51, 53, 49], [49, 54]], Ob.intro (by kernel_rfl) ?_⟩
      repeat refine same ?_
      refine callP p6 rfl rfl ?_
      refine fork (fun g => by simp [strEq_self, strEq_nilT] at g) (fun g => ?_)
      repeat refine same ?_
      refine callP (float64bits_ok c) rfl rfl ?_
      repeat refine same ?_
      refine callP p6 rfl rfl ?_
      refine fork (fun g => by simp [strEq_self, strEq_nilT] at g) (fun g => ?_)
      repeat refine same ?_
      refine forkD (fun h => ?_) (fun h => by omega)
      refine fork (fun g => by simp [strEq_self, strEq_nilT] at g) (fun g => ?_)
      refine callP p4 rfl rfl ?_
      first
        | (refine fork (fun g => ?_) (fun g => by rw [h00] at g; cases g)
           refine end0 rfl rfl rfl rfl)
        | (refine callP p5 rfl rfl ?_
           refine fork (fun g => ?_) (fun g => by rw [h00] at g; cases g)
           refine end0 rfl rfl rfl rfl)
        | (refine callP p5 rfl rfl ?_
           refine ⟨[0, 0, 0, 0, 1, 0, 0, 1, 1, 1], [[], [0], [0, 1], [0, 1, 2], [0, 1, 2, 3], [0, 1, 2], [0, 1, 2, 5], [0, 1, 2, 3, 4, 5, 6], [0, 1, 2, 3, 4, 5, 6, 7], [0, 1, 2, 3, 4, 5, 6, 7, 8]], [0, 0, 0, 0, 0, 0, 0, 0, 0, 0], [4], [[14], [93], [94], [13, 95], [96, 95], [5, 95], [98, 95], [97, 99, 95], [95, 100], [101]], Ob.intro (by kernel_rfl) ?_⟩
           repeat refine same ?_
           refine callP (float64bits_ok _) rfl rfl ?_
           refine fork (fun g => ?_) (fun g => by rw [hbb hr] at g; simp at g)
           repeat refine same ?_
           refine end0 rfl rfl rfl rfl)
  · rw [if_neg hl] at p3
    cases r <;> cases n <;>
    · refine acalls_of_awp hT mixed Try.func3 rfl (by kernel_rfl) (by kernel_rfl) (Nat.le_of_ble_eq_true rfl) ?_
      refine callP awakeV_ok rfl rfl ?_
      refine forkD (fun h => end0 rfl rfl rfl rfl) (fun h => ?_)
      refine forkD (fun h => end0 rfl rfl rfl rfl) (fun h => ?_)
      refine callP (float64frombits_ok m) rfl rfl ?_
      refine callP p1 rfl rfl ?_
      refine callP p2 rfl rfl ?_
      refine callP p3 rfl rfl ?_
      refine ⟨[0, 0, 1, 1, 1, 1, 1, 1, 1, 1, 1, 2, 1, 3, 3, 3], [[], [], [1], [1, 2], [0, 1, 2, 3], [0, 1, 2, 3, 4], [0, 1, 2, 3, 4, 5], [0, 1, 2, 3, 4, 5, 6], [0, 1, 2, 3, 4, 5, 6, 7], [0, 1, 2, 3, 4, 5, 6, 7, 8], [0, 1, 2, 3, 4, 5, 6, 7, 8, 9], [0, 1, 2, 3, 4, 5, 6, 7, 8, 9, 10], [0, 1, 2, 3, 4, 5, 6, 7, 8, 9], [0, 1, 2, 3, 4, 5, 6, 7, 8, 9, 10, 11, 12], [0, 1, 2, 3, 4, 5, 6, 7, 8, 9, 10, 11, 12, 13], [0, 1, 2, 3, 4, 5, 6, 7, 8, 9, 10, 11, 12, 13, 14]], [0, 0, 0, 0, 0, 0, 0, 0, 0, 0, 0, 0, 0, 0, 0, 0], [2, 11, 13], [[8], [7], [41], [42], [40, 43], [44], [10, 45], [46, 45], [45, 47], [48], [9, 49], [50, 49], [7, 49], [52, 49], [51, 53, 49], [49, 54]], Ob.intro (by kernel_rfl) ?_⟩
      repeat refine same ?_
      refine callP p6 rfl rfl ?_
      refine fork (fun g => by simp [strEq_self, strEq_nilT] at g) (fun g => ?_)
      repeat refine same ?_
      refine callP (float64bits_ok c) rfl rfl ?_
      repeat refine same ?_
      refine callP p6 rfl rfl ?_
      refine fork (fun g => by simp [strEq_self, strEq_nilT] at g) (fun g => ?_)
      repeat refine same ?_
      refine forkD (fun h => by omega) (fun h => ?_)
      refine fork (fun g => by simp [strEq_self, strEq_nilT] at g) (fun g => ?_)
      refine callP p4 rfl rfl ?_
      first
        | (refine fork (fun g => ?_) (fun g => by rw [h00] at g; cases g)
           refine end0 rfl rfl rfl rfl)
        | (refine callP p5 rfl rfl ?_
           refine fork (fun g => ?_) (fun g => by rw [h00] at g; cases g)
           refine end0 rfl rfl rfl rfl)
        | (refine callP p5 rfl rfl ?_
           refine ⟨[0, 0, 0, 0, 1, 0, 0, 1, 1, 1], [[], [0], [0, 1], [0, 1, 2], [0, 1, 2, 3], [0, 1, 2], [0, 1, 2, 5], [0, 1, 2, 3, 4, 5, 6], [0, 1, 2, 3, 4, 5, 6, 7], [0, 1, 2, 3, 4, 5, 6, 7, 8]], [0, 0, 0, 0, 0, 0, 0, 0, 0, 0], [4], [[14], [93], [94], [13, 95], [96, 95], [5, 95], [98, 95], [97, 99, 95], [95, 100], [101]], Ob.intro (by kernel_rfl) ?_⟩
           repeat refine same ?_
           refine callP (float64bits_ok _) rfl rfl ?_
           refine fork (fun g => ?_) (fun g => by rw [hbb hr] at g; simp at g)
           repeat refine same ?_
           refine end0 rfl rfl rfl rfl)
theorem valueOrders_ok (n : Bool) (t : ByteArray) (b : Nat) (n' : Bool) (t' : ByteArray) (b' : Nat) (hb : b < 18446744073709551616) (ht : t.size ≤ 300) (hb' : b' < 18446744073709551616) (ht' : t'.size ≤ 300) :
    ACalls Try.prog 4 [val n t b, val n' t' b'] [] (Ret (bo true)) := by
  have p1 := compareV_ok n t b n' t' b' hb hb'
  have p1' := compareV_ok n' t' b' n t b hb' hb
  have p2 := rRight_ok n t b hb
  have p2' := rRight_ok n' t' b' hb'
  have p3 := rPack_ok n t b hb (by omega)
  have p3' := rPack_ok n' t' b' hb' (by omega)
  have p4 := rCompare_ok n t b n' t' b' hb hb'
  have hc := cmp_pack n t b n' t' b' hb hb'
  have hc' := cmp_pack n' t' b' n t b hb' hb
  generalize packV n t b = s at *
  generalize packV n' t' b' = s' at *
  rw [← hc] at p1 p4
  rw [← hc'] at p1'
  have hsw : cmpS s' s = -cmpS s s' := cmpL_swap _ _
  have hlt := strLt_cmp s s'
  have hcs := cmpS_cases s s'
  rw [hsw] at p1'
  by_cases hr : rightV n t b = true
  · rw [hr] at p2
    by_cases hr' : rightV n' t' b' = true
    · rw [hr'] at p2'
      rw [if_pos ⟨hr, hr'⟩] at p1
      rw [if_pos ⟨hr', hr⟩] at p1'
      clear hr hr' hc hc' hsw
      obtain ⟨z, hz⟩ : ∃ z, z = cmpS s s' := ⟨_, rfl⟩
      rw [← hz] at hlt hcs p1 p1' p4
      have hneg : wrp .i64 (0 - z) = -z := by rw [wrpE, wi64]; omega
      generalize -z = z' at *
      cases n <;> cases n' <;>
      · refine acalls_of_awp hT mixed Try.func4 rfl (by kernel_rfl) (by kernel_rfl) (Nat.le_of_ble_eq_true rfl) ?_
        refine callP awakeV_ok rfl rfl ?_
        refine forkD (fun h => end0 rfl rfl rfl rfl) (fun h => ?_)
        refine forkD (fun h => end0 rfl rfl rfl rfl) (fun h => ?_)
        refine callP p1 rfl rfl ?_
        refine callP p2 rfl rfl ?_
        refine callP p2' rfl rfl ?_
        refine ⟨[0, 1, 0, 2, 2, 2], [[], [0], [], [0, 1, 2], [0, 1, 2, 3], [0, 1, 2, 3, 4]], [0, 0, 0, 0, 0, 0], [1, 3], [[2], [33], [3], [35], [34], [36]], Ob.intro (by kernel_rfl) ?_⟩
        repeat refine same ?_
        refine callP p3 rfl rfl ?_
        repeat refine same ?_
        refine callP p3' rfl rfl ?_
        repeat refine same ?_
        refine callP p4 rfl rfl ?_
        refine fork (fun g => ?_) (fun g => by simp at g)
        rcases hcs with hcs | hcs | hcs <;> rw [hcs] at hlt
        · refine forkD (fun g1 => ?_) (fun g1 => by omega)
          refine fork (fun g2 => ?_) (fun g2 => by rw [hlt.1] at g2; simp at g2)
          refine forkD (fun g3 => by omega) (fun g3 => ?_)
          refine fork (fun g4 => by rw [hlt.2] at g4; simp at g4) (fun g4 => ?_)
          refine callP p1' rfl rfl ?_
          refine fork (fun g5 => ?_) (fun g5 => by rw [hneg] at g5; simp at g5)
          refine end0 rfl rfl rfl rfl
        · refine forkD (fun g1 => by omega) (fun g1 => ?_)
          refine fork (fun g2 => by rw [hlt.1] at g2; simp at g2) (fun g2 => ?_)
          refine forkD (fun g3 => by omega) (fun g3 => ?_)
          refine fork (fun g4 => by rw [hlt.2] at g4; simp at g4) (fun g4 => ?_)
          refine callP p1' rfl rfl ?_
          refine fork (fun g5 => ?_) (fun g5 => by rw [hneg] at g5; simp at g5)
          refine end0 rfl rfl rfl rfl
        · refine forkD (fun g1 => by omega) (fun g1 => ?_)
          refine fork (fun g2 => by rw [hlt.1] at g2; simp at g2) (fun g2 => ?_)
          refine forkD (fun g3 => ?_) (fun g3 => by omega)
          refine fork (fun g4 => ?_) (fun g4 => by rw [hlt.2] at g4; simp at g4)
          refine callP p1' rfl rfl ?_
          refine fork (fun g5 => ?_) (fun g5 => by rw [hneg] at g5; simp at g5)
          refine end0 rfl rfl rfl rfl
    · rw [Bool.eq_false_iff.2 hr'] at p2'
      rw [if_neg fun h => hr' h.2] at p1
      cases n <;> cases n' <;>
      · refine acalls_of_awp hT mixed Try.func4 rfl (by kernel_rfl) (by kernel_rfl) (Nat.le_of_ble_eq_true rfl) ?_
        refine callP awakeV_ok rfl rfl ?_
        refine forkD (fun h => end0 rfl rfl rfl rfl) (fun h => ?_)
        refine forkD (fun h => end0 rfl rfl rfl rfl) (fun h => ?_)
        refine callP p1 rfl rfl ?_
        refine callP p2 rfl rfl ?_
        refine callP p2' rfl rfl ?_
        refine end0 rfl rfl rfl rfl
  · rw [Bool.eq_false_iff.2 hr] at p2
    rw [if_neg fun h => hr h.1] at p1
    cases n <;> cases n' <;>
    · refine acalls_of_awp hT mixed Try.func4 rfl (by kernel_rfl) (by kernel_rfl) (Nat.le_of_ble_eq_true rfl) ?_
      refine callP awakeV_ok rfl rfl ?_
      refine forkD (fun h => end0 rfl rfl rfl rfl) (fun h => ?_)
      refine forkD (fun h => end0 rfl rfl rfl rfl) (fun h => ?_)
      refine callP p1 rfl rfl ?_
      refine callP p2 rfl rfl ?_
      refine end0 rfl rfl rfl rfl
end Go.Proofs.Ytnfimgnhfmlohaa.A
