/- wire: the document's items of a letter. No condition. -/
import Derived.Test.YthebddjpnkimjaaWf
namespace Go.Proofs.Ythebddjpnkimjaa.A
open Go
set_option linter.unusedVariables false
set_option linter.unusedSimpArgs false
set_option maxRecDepth 100000
set_option pp.maxSteps 1500

def OneRR (o : Option (List Nat)) : AEnd → Heap → Prop := fun E G => G = [] ∧ ∃ t : ByteArray, E = .ret (.tup [str t, bo o.isSome]) ∧ (∀ b, o = some b → t = BA b) ∧ t.size ≤ 2000000
theorem emB_k (n : Nat) (s : ByteArray) (l : List Nat) (a b c : Bool) : emB n s l a b c = true ↔ (a = true ∨ n = 0) ∧ (b = true ∨ strEq s ⟨#[]⟩ = true) ∧ (c = true ∨ l.length = 0) := by
  have e1 : ((n : Int) == 0) = decide (n = 0) := by rw [Bool.eq_iff_iff, beq_iff_eq, decide_eq_true_iff]; omega
  have e2 : ((l.length : Int) == 0) = decide (l.length = 0) := by rw [Bool.eq_iff_iff, beq_iff_eq, decide_eq_true_iff]; omega
  unfold emB
  rw [e1, e2]
  simp only [Bool.and_eq_true, Bool.or_eq_true, decide_eq_true_iff, and_assoc]
theorem rone_b (n : Nat) (s : ByteArray) (l : List Nat) (k : List It) : ACalls Try.prog 31 [u8n 98, itA (.mk n s l k)] [] (OneRR (oneP 98 (.mk n s l k))) := by
  generalize ho : oneP _ (It.mk n s l k) = o
  refine acalls_of_awp hT mixed Try.func31 rfl (by kernel_rfl) (by kernel_rfl) (Nat.le_of_ble_eq_true rfl) ?_
  refine forkD (fun gk => ?_) (fun gk => ?_)
  · have hk : k.length ≠ 0 := by have : (k.length : Int) > 0 := gk; omega
    have hno : o = none := by rw [← ho, oneP_mk]; simp [emB_k, hk]
    subst hno
    exact ⟨rfl, [], .tup [str ⟨#[]⟩, bo false], ⟨⟨_, rfl, rfl⟩, True.intro, Nat.zero_le _, rfl⟩, rfl, ⟨#[]⟩, rfl, fun _ h => (by cases h), Nat.zero_le _⟩
  have hk : k.length = 0 := by have : ¬ (k.length : Int) > 0 := gk; omega
  refine fork (fun gs => ?_) (fun gs => ?_)
  · have hs : strEq s ⟨#[]⟩ = false := by
      have : (!strEq s ⟨#[]⟩) = true := gs
      simpa using this
    have hno : o = none := by rw [← ho, oneP_mk]; simp [emB_k, hs]
    subst hno
    exact ⟨rfl, [], .tup [str ⟨#[]⟩, bo false], ⟨⟨_, rfl, rfl⟩, True.intro, Nat.zero_le _, rfl⟩, rfl, ⟨#[]⟩, rfl, fun _ h => (by cases h), Nat.zero_le _⟩
  have hs : strEq s ⟨#[]⟩ = true := by
    have : (!strEq s ⟨#[]⟩) = false := gs
    simpa using this
  refine forkD (fun gl => ?_) (fun gl => ?_)
  · have hl : ¬ l.length = 0 := by have : (l.length : Int) > 0 := gl; omega
    have hno : o = none := by rw [← ho, oneP_mk]; simp [emB_k, hl]
    subst hno
    exact ⟨rfl, [], .tup [str ⟨#[]⟩, bo false], ⟨⟨_, rfl, rfl⟩, True.intro, Nat.zero_le _, rfl⟩, rfl, ⟨#[]⟩, rfl, fun _ h => (by cases h), Nat.zero_le _⟩
  have hl : l.length = 0 := by have : ¬ (l.length : Int) > 0 := gl; omega
  have hw : wrp .u8 (n : Int) = ((n % 256 : Nat) : Int) := byteW n
  refine ⟨[0, 0, 0, 0, 0, 0, 0, 0, 0, 0], [[], [0], [0, 1], [0, 1, 2], [0, 1, 2, 3], [], [5], [5, 6], [0, 1, 2, 3, 4], [0, 1, 2, 3, 4, 5, 6, 7, 8]], [0, 0, 0, 0, 1, 1, 1, 1, 1, 1], [], [[3], [46], [47], [48], [49], [3], [51], [52], [50], [53]], Ob.intro (by kernel_rfl) ?_⟩
  repeat refine same ?_
  refine forkD (fun g => ?_) (fun g => ?_)
  · have hn : n ≤ 255 := by have : (n : Int) < 256 := g; omega
    repeat refine same ?_
    have e : n % 256 = n := by omega
    rw [e] at hw
    have hyes : o = some ([n]) := by rw [← ho, oneP_mk]; simp [emB_k, hk, hs, hl, hn]
    subst hyes
    exact ⟨rfl, [], .tup [str (⟨[UInt8.ofNat (wrp .u8 (n : Int)).toNat].toArray⟩), bo true], ⟨⟨_, rfl, rfl⟩, True.intro, Nat.zero_le _, rfl⟩, rfl, ⟨[UInt8.ofNat (wrp .u8 (n : Int)).toNat].toArray⟩, rfl, fun b h => (by cases h; exact (by rw [hw]; rfl)), show 1 ≤ 2000000 by omega⟩
  · have hn : ¬ n ≤ 255 := by have : ¬ (n : Int) < 256 := g; omega
    repeat refine same ?_
    have hno : o = none := by rw [← ho, oneP_mk]; simp [emB_k, hn]
    subst hno
    exact ⟨rfl, [], .tup [str (⟨[UInt8.ofNat (wrp .u8 (n : Int)).toNat].toArray⟩), bo false], ⟨⟨_, rfl, rfl⟩, True.intro, Nat.zero_le _, rfl⟩, rfl, ⟨[UInt8.ofNat (wrp .u8 (n : Int)).toNat].toArray⟩, rfl, fun _ h => (by cases h), show 1 ≤ 2000000 by omega⟩
theorem rone_n (n : Nat) (s : ByteArray) (l : List Nat) (k : List It) (hn : n < 18446744073709551616) : ACalls Try.prog 31 [u8n 110, itA (.mk n s l k)] [] (OneRR (oneP 110 (.mk n s l k))) := by
  have hc := rnumber_ok n hn
  have hnl := numN_len10 hn
  generalize ho : oneP _ (It.mk n s l k) = o
  refine acalls_of_awp hT mixed Try.func31 rfl (by kernel_rfl) (by kernel_rfl) (Nat.le_of_ble_eq_true rfl) ?_
  refine forkD (fun gk => ?_) (fun gk => ?_)
  · have hk : k.length ≠ 0 := by have : (k.length : Int) > 0 := gk; omega
    have hno : o = none := by rw [← ho, oneP_mk]; simp [emB_k, hk]
    subst hno
    exact ⟨rfl, [], .tup [str ⟨#[]⟩, bo false], ⟨⟨_, rfl, rfl⟩, True.intro, Nat.zero_le _, rfl⟩, rfl, ⟨#[]⟩, rfl, fun _ h => (by cases h), Nat.zero_le _⟩
  have hk : k.length = 0 := by have : ¬ (k.length : Int) > 0 := gk; omega
  refine fork (fun gs => ?_) (fun gs => ?_)
  · have hs : strEq s ⟨#[]⟩ = false := by
      have : (!strEq s ⟨#[]⟩) = true := gs
      simpa using this
    have hno : o = none := by rw [← ho, oneP_mk]; simp [emB_k, hs]
    subst hno
    exact ⟨rfl, [], .tup [str ⟨#[]⟩, bo false], ⟨⟨_, rfl, rfl⟩, True.intro, Nat.zero_le _, rfl⟩, rfl, ⟨#[]⟩, rfl, fun _ h => (by cases h), Nat.zero_le _⟩
  have hs : strEq s ⟨#[]⟩ = true := by
    have : (!strEq s ⟨#[]⟩) = false := gs
    simpa using this
  refine forkD (fun gl => ?_) (fun gl => ?_)
  · have hl : ¬ l.length = 0 := by have : (l.length : Int) > 0 := gl; omega
    have hno : o = none := by rw [← ho, oneP_mk]; simp [emB_k, hl]
    subst hno
    exact ⟨rfl, [], .tup [str ⟨#[]⟩, bo false], ⟨⟨_, rfl, rfl⟩, True.intro, Nat.zero_le _, rfl⟩, rfl, ⟨#[]⟩, rfl, fun _ h => (by cases h), Nat.zero_le _⟩
  have hl : l.length = 0 := by have : ¬ (l.length : Int) > 0 := gl; omega
  refine callP hc rfl rfl ?_
  have hyes : o = some (numN n) := by rw [← ho, oneP_mk]; simp [emB_k, hk, hs, hl]
  subst hyes
  exact ⟨rfl, [], .tup [str (BA (numN n)), bo true], ⟨⟨_, rfl, rfl⟩, True.intro, Nat.zero_le _, rfl⟩, rfl, BA (numN n), rfl, fun b h => (by cases h; exact rfl), by rw [BA_size]; omega⟩
theorem rone_t (n : Nat) (s : ByteArray) (l : List Nat) (k : List It) (hsz : s.size ≤ 1000000) : ACalls Try.prog 31 [u8n 116, itA (.mk n s l k)] [] (OneRR (oneP 116 (.mk n s l k))) := by
  have hw : wrp .u64 (s.size : Int) = ((s.size : Nat) : Int) := by rw [wrpE, wu64]; omega
  have hc := rnumber_ok s.size (by omega)
  have hnl := numN_len10 (show s.size < 18446744073709551616 by omega)
  have harg : u64n s.size = u64 (wrp .u64 (s.size : Int)) := by rw [hw]; rfl
  rw [harg] at hc
  have hsb : (BA (numN s.size)).size = (numN s.size).length := BA_size _
  have hcat : BA (numN s.size) ++ s = BA (numN s.size ++ byL s) := by rw [← BA_append, BA_byL]
  have hcs := BA_size (numN s.size ++ byL s)
  rw [List.length_append, byL_len] at hcs
  generalize ho : oneP _ (It.mk n s l k) = o
  refine acalls_of_awp hT mixed Try.func31 rfl (by kernel_rfl) (by kernel_rfl) (Nat.le_of_ble_eq_true rfl) ?_
  refine forkD (fun gk => ?_) (fun gk => ?_)
  · have hk : k.length ≠ 0 := by have : (k.length : Int) > 0 := gk; omega
    have hno : o = none := by rw [← ho, oneP_mk]; simp [emB_k, hk]
    subst hno
    exact ⟨rfl, [], .tup [str ⟨#[]⟩, bo false], ⟨⟨_, rfl, rfl⟩, True.intro, Nat.zero_le _, rfl⟩, rfl, ⟨#[]⟩, rfl, fun _ h => (by cases h), Nat.zero_le _⟩
  have hk : k.length = 0 := by have : ¬ (k.length : Int) > 0 := gk; omega
  refine forkD (fun gl => ?_) (fun gl => ?_)
  · have hl : ¬ l.length = 0 := by have : (l.length : Int) > 0 := gl; omega
    have hno : o = none := by rw [← ho, oneP_mk]; simp [emB_k, hl]
    subst hno
    exact ⟨rfl, [], .tup [str ⟨#[]⟩, bo false], ⟨⟨_, rfl, rfl⟩, True.intro, Nat.zero_le _, rfl⟩, rfl, ⟨#[]⟩, rfl, fun _ h => (by cases h), Nat.zero_le _⟩
  have hl : l.length = 0 := by have : ¬ (l.length : Int) > 0 := gl; omega
  refine fork (fun gn => ?_) (fun gn => ?_)
  · have hn0 : ¬ n = 0 := by
      have : (n : Int) ≠ 0 := bne_iff_ne.1 gn
      omega
    have hno : o = none := by rw [← ho, oneP_mk]; simp [emB_k, hn0]
    subst hno
    exact ⟨rfl, [], .tup [str ⟨#[]⟩, bo false], ⟨⟨_, rfl, rfl⟩, True.intro, Nat.zero_le _, rfl⟩, rfl, ⟨#[]⟩, rfl, fun _ h => (by cases h), Nat.zero_le _⟩
  have hn0 : n = 0 := by
    have : (n : Int) = 0 := bne_eq_false_iff_eq.1 gn
    omega
  refine ⟨[0, 0, 0, 0, 1, 0, 0, 1, 0, 0, 0, 0, 1, 1], [[], [0], [0, 1], [0, 1, 2], [0, 1, 2, 3], [], [5], [0, 1, 2, 3, 4, 5, 6], [], [8], [8, 9], [8, 9, 10], [0, 1, 2, 3, 4, 5, 6, 7], [0, 1, 2, 3, 4, 5, 6, 7, 8, 9, 10, 11, 12]], [0, 0, 0, 0, 0, 0, 0, 0, 0, 0, 0, 0, 0, 0], [4], [[3], [61], [62], [63], [64], [3], [66], [65, 67], [3], [69], [70], [71], [68], [72]], Ob.intro (by kernel_rfl) ?_⟩
  repeat refine same ?_
  refine forkD (fun g => ?_) (fun g => ?_)
  · have hg : s.size ≤ 200 := by have : (s.size : Int) ≤ 200 := g; omega
    repeat refine same ?_
    refine callP hc rfl rfl ?_
    repeat refine same ?_
    refine Ob.intro (show (BA (numN s.size)).size + s.size ≤ 9223372036854775807 by omega) ?_
    repeat refine same ?_
    have hyes : o = some (numN s.size ++ byL s) := by rw [← ho, oneP_mk]; simp [emB_k, hk, hl, hn0, hg]
    subst hyes
    exact ⟨rfl, [], .tup [str (BA (numN s.size) ++ s), bo true], ⟨⟨_, rfl, rfl⟩, True.intro, Nat.zero_le _, rfl⟩, rfl, BA (numN s.size) ++ s, rfl, fun b h => (by cases h; exact hcat), by rw [hcat]; omega⟩
  · have hg : ¬ s.size ≤ 200 := by have : ¬ (s.size : Int) ≤ 200 := g; omega
    repeat refine same ?_
    refine callP hc rfl rfl ?_
    repeat refine same ?_
    refine Ob.intro (show (BA (numN s.size)).size + s.size ≤ 9223372036854775807 by omega) ?_
    repeat refine same ?_
    have hno : o = none := by rw [← ho, oneP_mk]; simp [emB_k, hg]
    subst hno
    exact ⟨rfl, [], .tup [str (BA (numN s.size) ++ s), bo false], ⟨⟨_, rfl, rfl⟩, True.intro, Nat.zero_le _, rfl⟩, rfl, BA (numN s.size) ++ s, rfl, fun _ h => (by cases h), by rw [hcat]; omega⟩
theorem rone_f (n : Nat) (s : ByteArray) (l : List Nat) (k : List It) (hn : n < 18446744073709551616) : ACalls Try.prog 31 [u8n 102, itA (.mk n s l k)] [] (OneRR (oneP 102 (.mk n s l k))) := by
  have hF := float64frombits_ok (n : Nat)
  rw [Int.toNat_natCast] at hF
  have hB := rBits_ok n hn
  have hK := rKey_ok n hn
  have hbk : (⟨(keyL (placeB n)).toArray⟩ : ByteArray) = BA (keyN n) := by
    apply ext_BA
    rw [BA_list]
    unfold keyN
    rw [List.map_map]
    show keyL (placeB n) = _
    conv => lhs; rw [← List.map_id (keyL (placeB n))]
    apply List.map_congr_left
    intro x _
    simp
  rw [hbk] at hK
  have hks : (BA (keyN n)).size = 8 := by rw [BA_size]; rfl
  clear hbk
  generalize hkk : BA (keyN n) = ks at *
  have hkk := hkk.symm
  generalize ho : oneP _ (It.mk n s l k) = o
  refine acalls_of_awp hT mixed Try.func31 rfl (by kernel_rfl) (by kernel_rfl) (Nat.le_of_ble_eq_true rfl) ?_
  refine forkD (fun gk => ?_) (fun gk => ?_)
  · have hk : k.length ≠ 0 := by have : (k.length : Int) > 0 := gk; omega
    have hno : o = none := by rw [← ho, oneP_mk]; simp [emB_k, hk]
    subst hno
    exact ⟨rfl, [], .tup [str ⟨#[]⟩, bo false], ⟨⟨_, rfl, rfl⟩, True.intro, Nat.zero_le _, rfl⟩, rfl, ⟨#[]⟩, rfl, fun _ h => (by cases h), Nat.zero_le _⟩
  have hk : k.length = 0 := by have : ¬ (k.length : Int) > 0 := gk; omega
  refine fork (fun gs => ?_) (fun gs => ?_)
  · have hs : strEq s ⟨#[]⟩ = false := by
      have : (!strEq s ⟨#[]⟩) = true := gs
      simpa using this
    have hno : o = none := by rw [← ho, oneP_mk]; simp [emB_k, hs]
    subst hno
    exact ⟨rfl, [], .tup [str ⟨#[]⟩, bo false], ⟨⟨_, rfl, rfl⟩, True.intro, Nat.zero_le _, rfl⟩, rfl, ⟨#[]⟩, rfl, fun _ h => (by cases h), Nat.zero_le _⟩
  have hs : strEq s ⟨#[]⟩ = true := by
    have : (!strEq s ⟨#[]⟩) = false := gs
    simpa using this
  refine forkD (fun gl => ?_) (fun gl => ?_)
  · have hl : ¬ l.length = 0 := by have : (l.length : Int) > 0 := gl; omega
    have hno : o = none := by rw [← ho, oneP_mk]; simp [emB_k, hl]
    subst hno
    exact ⟨rfl, [], .tup [str ⟨#[]⟩, bo false], ⟨⟨_, rfl, rfl⟩, True.intro, Nat.zero_le _, rfl⟩, rfl, ⟨#[]⟩, rfl, fun _ h => (by cases h), Nat.zero_le _⟩
  have hl : l.length = 0 := by have : ¬ (l.length : Int) > 0 := gl; omega
  refine callP hF rfl rfl ?_
  refine ⟨[0, 1, 0, 2, 0, 0, 2, 2, 2], [[], [0], [], [0, 1, 2], [], [4], [0, 1, 2, 3, 4, 5], [0, 1, 2, 3], [0, 1, 2, 3, 4, 5, 6, 7]], [0, 0, 0, 0, 0, 0, 0, 0, 0], [1, 3], [[6], [78], [6], [80], [3], [82], [81, 83], [79], [84]], Ob.intro (by kernel_rfl) ?_⟩
  repeat refine same ?_
  refine callP hK rfl rfl ?_
  repeat refine same ?_
  refine callP hB rfl rfl ?_
  repeat refine same ?_
  refine fork (fun g => ?_) (fun g => ?_)
  · have hg : bitsB n = n := by
      have : ((bitsB n : Nat) : Int) = (n : Nat) := beq_iff_eq.1 g
      omega
    repeat refine same ?_
    have hyes : o = some (keyN n) := by rw [← ho, oneP_mk]; simp [emB_k, hk, hs, hl, hg]
    subst hyes
    exact ⟨rfl, [], .tup [str (ks), bo true], ⟨⟨_, rfl, rfl⟩, True.intro, Nat.zero_le _, rfl⟩, rfl, ks, rfl, fun b h => (by cases h; exact hkk), by omega⟩
  · have hg : ¬ bitsB n = n := by
      have : ((bitsB n : Nat) : Int) ≠ (n : Nat) := beq_eq_false_iff_ne.1 g
      omega
    repeat refine same ?_
    have hno : o = none := by rw [← ho, oneP_mk]; simp [emB_k, hg]
    subst hno
    exact ⟨rfl, [], .tup [str (ks), bo false], ⟨⟨_, rfl, rfl⟩, True.intro, Nat.zero_le _, rfl⟩, rfl, ks, rfl, fun _ h => (by cases h), by omega⟩
theorem rone_l (n : Nat) (s : ByteArray) (l : List Nat) (k : List It) (h200 : l.length ≤ 200) (h64 : ∀ y ∈ l, y < 18446744073709551616) : ACalls Try.prog 31 [u8n 108, itA (.mk n s l k)] [] (OneRR (oneP 108 (.mk n s l k))) := by
  have hP := rpack_ok l h200 h64
  have hR := rright_ok l (by omega)
  have hks : (packB l).size ≤ 2000000 := by rw [packB_size]; omega
  generalize ho : oneP _ (It.mk n s l k) = o
  refine acalls_of_awp hT mixed Try.func31 rfl (by kernel_rfl) (by kernel_rfl) (Nat.le_of_ble_eq_true rfl) ?_
  refine forkD (fun gk => ?_) (fun gk => ?_)
  · have hk : k.length ≠ 0 := by have : (k.length : Int) > 0 := gk; omega
    have hno : o = none := by rw [← ho, oneP_mk]; simp [emB_k, hk]
    subst hno
    exact ⟨rfl, [], .tup [str ⟨#[]⟩, bo false], ⟨⟨_, rfl, rfl⟩, True.intro, Nat.zero_le _, rfl⟩, rfl, ⟨#[]⟩, rfl, fun _ h => (by cases h), Nat.zero_le _⟩
  have hk : k.length = 0 := by have : ¬ (k.length : Int) > 0 := gk; omega
  refine fork (fun gs => ?_) (fun gs => ?_)
  · have hs : strEq s ⟨#[]⟩ = false := by
      have : (!strEq s ⟨#[]⟩) = true := gs
      simpa using this
    have hno : o = none := by rw [← ho, oneP_mk]; simp [emB_k, hs]
    subst hno
    exact ⟨rfl, [], .tup [str ⟨#[]⟩, bo false], ⟨⟨_, rfl, rfl⟩, True.intro, Nat.zero_le _, rfl⟩, rfl, ⟨#[]⟩, rfl, fun _ h => (by cases h), Nat.zero_le _⟩
  have hs : strEq s ⟨#[]⟩ = true := by
    have : (!strEq s ⟨#[]⟩) = false := gs
    simpa using this
  refine fork (fun gn => ?_) (fun gn => ?_)
  · have hn0 : ¬ n = 0 := by
      have : (n : Int) ≠ 0 := bne_iff_ne.1 gn
      omega
    have hno : o = none := by rw [← ho, oneP_mk]; simp [emB_k, hn0]
    subst hno
    exact ⟨rfl, [], .tup [str ⟨#[]⟩, bo false], ⟨⟨_, rfl, rfl⟩, True.intro, Nat.zero_le _, rfl⟩, rfl, ⟨#[]⟩, rfl, fun _ h => (by cases h), Nat.zero_le _⟩
  have hn0 : n = 0 := by
    have : (n : Int) = 0 := bne_eq_false_iff_eq.1 gn
    omega
  refine ⟨[0, 0, 1, 0, 0, 2, 2, 2], [[], [0], [0, 1], [], [3], [0, 1, 2, 3, 4], [0, 1, 2, 3, 4, 5], [0, 1, 2, 3, 4, 5, 6]], [0, 0, 0, 0, 0, 0, 0, 0], [2, 5], [[3], [85], [86], [3], [88], [89], [87], [90]], Ob.intro (by kernel_rfl) ?_⟩
  repeat refine same ?_
  refine callP hP rfl rfl ?_
  repeat refine same ?_
  refine callP hR rfl rfl ?_
  repeat refine same ?_
  refine fork (fun g => ?_) (fun g => ?_)
  · have hg : rightB l = true := g
    repeat refine same ?_
    have hyes : o = some (packN l) := by rw [← ho, oneP_mk]; simp [emB_k, hk, hs, hn0, hg]
    subst hyes
    exact ⟨rfl, [], .tup [str (packB l), bo true], ⟨⟨_, rfl, rfl⟩, True.intro, Nat.zero_le _, rfl⟩, rfl, packB l, rfl, fun b h => (by cases h; exact rfl), hks⟩
  · have hg : rightB l = false := g
    repeat refine same ?_
    have hno : o = none := by rw [← ho, oneP_mk]; simp [emB_k, hg]
    subst hno
    exact ⟨rfl, [], .tup [str (packB l), bo false], ⟨⟨_, rfl, rfl⟩, True.intro, Nat.zero_le _, rfl⟩, rfl, packB l, rfl, fun _ h => (by cases h), hks⟩
theorem rone_ok (c n : Nat) (s : ByteArray) (l : List Nat) (k : List It) (hc : isL c = true) (hw : WI (.mk n s l k)) : ACalls Try.prog 31 [u8n c, itA (.mk n s l k)] [] (OneRR (oneP c (.mk n s l k))) := by
  cases hw with
  | mk _ _ _ _ w1 w2 w3 w4 w5 w6 =>
    rcases isL_5 hc with rfl | rfl | rfl | rfl | rfl
    · exact rone_b n s l k
    · exact rone_n n s l k w1
    · exact rone_t n s l k w4
    · exact rone_f n s l k w1
    · exact rone_l n s l k w2 w3
end Go.Proofs.Ythebddjpnkimjaa.A
