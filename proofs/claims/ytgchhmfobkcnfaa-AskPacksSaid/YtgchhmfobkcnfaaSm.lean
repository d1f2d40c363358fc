/- ask, the reference: Pack. No condition. -/
import Derived.Test.YtgchhmfobkcnfaaSj
namespace Go.Proofs.Ytgchhmfobkcnfaa.A
open Go
set_option linter.unusedVariables false
set_option linter.unusedSimpArgs false
set_option maxRecDepth 100000
set_option pp.maxSteps 400

theorem rn20_ok (x : Nat) (h : x < 18446744073709551616) : ACalls Try.prog 35 [u64n x] [] (Ret (str (BA (numN x)))) := by
  have h1 := rnumber_ok x h
  refine acalls_of_awp hT mixed Try.func35 rfl (by kernel_rfl) (by kernel_rfl) (Nat.le_of_ble_eq_true rfl) ?_
  refine callP h1 rfl rfl ?_
  refine end0 rfl rfl rfl rfl
theorem rn20_i (x : Int) (h : 0 ≤ x ∧ x < 9223372036854775808) : ACalls Try.prog 35 [u64 (wrp .u64 x)] [] (Ret (str (BA (numN x.toNat)))) := by
  obtain ⟨n, rfl⟩ : ∃ n : Nat, x = (n : Int) := ⟨x.toNat, by omega⟩
  rw [num_w (by omega), Int.toNat_natCast]
  exact rn20_ok n (by omega)
theorem rt20_ok (s : ByteArray) (hs : s.size ≤ 1000000) : ACalls Try.prog 38 [str s] [] (Ret (str (BA (txB s)))) := by
  have n1 := rn20_ok s.size (by omega)
  rw [show u64n s.size = u64 (wrp .u64 ((s.size : Nat) : Int)) by rw [num_w (by omega)]; rfl] at n1
  have l1 := numN_len10 (show s.size < 18446744073709551616 by omega)
  refine acalls_of_awp hT mixed Try.func38 rfl (by kernel_rfl) (by kernel_rfl) (Nat.le_of_ble_eq_true rfl) ?_
  refine callP n1 rfl rfl ?_
  refine Ob.intro (show (BA (numN s.size)).size + s.size ≤ 9223372036854775807 by rw [BA_size]; omega) ?_
  refine end0 rfl rfl rfl ?_
  show str (BA (numN s.size) ++ s) = str (BA (numN s.size ++ byL s))
  rw [← BA_append, BA_byL]
theorem rbit20_ok (q : Bool) : ACalls Try.prog 37 [bo q] [] (Ret (str (BA [bN q]))) := by
  cases q <;>
  · refine acalls_of_awp hT mixed Try.func37 rfl (by kernel_rfl) (by kernel_rfl) (Nat.le_of_ble_eq_true rfl) ?_
    refine end0 rfl rfl rfl rfl
noncomputable def kB (k : Int) : ByteArray := ⟨#[UInt8.ofNat (wrp .u8 k).toNat]⟩
theorem kB_eq (k : Nat) (h : k ≤ 255) : kB (k : Nat) = BA [k] := by
  unfold kB
  have : wrp .u8 (k : Int) = ((k : Nat) : Int) := by rw [wrpE]; show ((k : Int) % 256) = _; omega
  rw [this, Int.toNat_natCast]
  rfl
theorem rp_1 (w : Int) (X1 : ByteArray) (hX1 : X1.size ≤ 1000) (c0 : ACalls Try.prog 35 [u64 (wrp .u64 w)] [] (Ret (str X1))) : ACalls Try.prog 12 [.agg (Rq.C ⟨1, w, [], 0, false, 0, emp, false, emp, 0, emp, emp, 0, 0, []⟩)] [] (Ret (str (kB 1 ++ X1))) := by
  have s1 : (kB 1).size + X1.size ≤ 9223372036854775807 := by
    (try simp only [size_append])
    have : (kB 1).size = 1 := rfl
    omega
  refine acalls_of_awp hT mixed Try.func12 rfl (by kernel_rfl) (by kernel_rfl) (Nat.le_of_ble_eq_true rfl) ?_
  refine callP c0 rfl rfl ?_
  repeat first | refine same ?_ | refine Ob.intro s1 ?_
  refine end0 rfl rfl rfl ?_
  rfl
theorem rp_2   : ACalls Try.prog 12 [.agg (Rq.C ⟨2, 0, [], 0, false, 0, emp, false, emp, 0, emp, emp, 0, 0, []⟩)] [] (Ret (str (kB 2))) := by
  refine acalls_of_awp hT mixed Try.func12 rfl (by kernel_rfl) (by kernel_rfl) (Nat.le_of_ble_eq_true rfl) ?_
  refine end0 rfl rfl rfl ?_
  rfl
theorem rp_3 (l : List Nat) (X1 : ByteArray) (hX1 : X1.size ≤ 1000) (c0 : ACalls Try.prog 36 [us l] [] (Ret (str X1))) : ACalls Try.prog 12 [.agg (Rq.C ⟨3, 0, l, 0, false, 0, emp, false, emp, 0, emp, emp, 0, 0, []⟩)] [] (Ret (str (kB 3 ++ X1))) := by
  have s1 : (kB 3).size + X1.size ≤ 9223372036854775807 := by
    (try simp only [size_append])
    have : (kB 3).size = 1 := rfl
    omega
  refine acalls_of_awp hT mixed Try.func12 rfl (by kernel_rfl) (by kernel_rfl) (Nat.le_of_ble_eq_true rfl) ?_
  refine callP c0 rfl rfl ?_
  repeat first | refine same ?_ | refine Ob.intro s1 ?_
  refine end0 rfl rfl rfl ?_
  rfl
theorem rp_4 (g : Nat) (X1 : ByteArray) (hX1 : X1.size ≤ 1000) (c0 : ACalls Try.prog 35 [u64n g] [] (Ret (str X1))) : ACalls Try.prog 12 [.agg (Rq.C ⟨4, 0, [], g, false, 0, emp, false, emp, 0, emp, emp, 0, 0, []⟩)] [] (Ret (str (kB 4 ++ X1))) := by
  have s1 : (kB 4).size + X1.size ≤ 9223372036854775807 := by
    (try simp only [size_append])
    have : (kB 4).size = 1 := rfl
    omega
  refine acalls_of_awp hT mixed Try.func12 rfl (by kernel_rfl) (by kernel_rfl) (Nat.le_of_ble_eq_true rfl) ?_
  refine callP c0 rfl rfl ?_
  repeat first | refine same ?_ | refine Ob.intro s1 ?_
  refine end0 rfl rfl rfl ?_
  rfl
theorem rp_5   : ACalls Try.prog 12 [.agg (Rq.C ⟨5, 0, [], 0, false, 0, emp, false, emp, 0, emp, emp, 0, 0, []⟩)] [] (Ret (str (kB 5))) := by
  refine acalls_of_awp hT mixed Try.func12 rfl (by kernel_rfl) (by kernel_rfl) (Nat.le_of_ble_eq_true rfl) ?_
  refine end0 rfl rfl rfl ?_
  rfl
theorem rp_6 (w : Int) (g : Nat) (m : Bool) (X1 X2 X3 : ByteArray) (hX1 : X1.size ≤ 1000) (hX2 : X2.size ≤ 1000) (hX3 : X3.size ≤ 1000) (c0 : ACalls Try.prog 35 [u64 (wrp .u64 w)] [] (Ret (str X1))) (c1 : ACalls Try.prog 35 [u64n g] [] (Ret (str X2))) (c2 : ACalls Try.prog 37 [bo m] [] (Ret (str X3))) : ACalls Try.prog 12 [.agg (Rq.C ⟨6, w, [], g, m, 0, emp, false, emp, 0, emp, emp, 0, 0, []⟩)] [] (Ret (str (kB 6 ++ X1 ++ X2 ++ X3))) := by
  have s1 : (kB 6).size + X1.size ≤ 9223372036854775807 := by
    (try simp only [size_append])
    have : (kB 6).size = 1 := rfl
    omega
  have s2 : (kB 6 ++ X1).size + X2.size ≤ 9223372036854775807 := by
    (try simp only [size_append])
    have : (kB 6).size = 1 := rfl
    omega
  have s3 : (kB 6 ++ X1 ++ X2).size + X3.size ≤ 9223372036854775807 := by
    (try simp only [size_append])
    have : (kB 6).size = 1 := rfl
    omega
  cases m <;>
  · refine acalls_of_awp hT mixed Try.func12 rfl (by kernel_rfl) (by kernel_rfl) (Nat.le_of_ble_eq_true rfl) ?_
    refine callP c0 rfl rfl ?_
    repeat first | refine same ?_ | refine Ob.intro s1 ?_ | refine Ob.intro s2 ?_ | refine Ob.intro s3 ?_
    refine callP c1 rfl rfl ?_
    repeat first | refine same ?_ | refine Ob.intro s1 ?_ | refine Ob.intro s2 ?_ | refine Ob.intro s3 ?_
    refine callP c2 rfl rfl ?_
    repeat first | refine same ?_ | refine Ob.intro s1 ?_ | refine Ob.intro s2 ?_ | refine Ob.intro s3 ?_
    refine end0 rfl rfl rfl ?_
    rfl
theorem rp_7   : ACalls Try.prog 12 [.agg (Rq.C ⟨7, 0, [], 0, false, 0, emp, false, emp, 0, emp, emp, 0, 0, []⟩)] [] (Ret (str (kB 7))) := by
  refine acalls_of_awp hT mixed Try.func12 rfl (by kernel_rfl) (by kernel_rfl) (Nat.le_of_ble_eq_true rfl) ?_
  refine end0 rfl rfl rfl ?_
  rfl
theorem rp_8 (r : Int) (key : ByteArray) (X1 X2 : ByteArray) (hX1 : X1.size ≤ 1000) (hX2 : X2.size ≤ 1000) (c0 : ACalls Try.prog 35 [u64 (wrp .u64 r)] [] (Ret (str X1))) (c1 : ACalls Try.prog 38 [str key] [] (Ret (str X2))) : ACalls Try.prog 12 [.agg (Rq.C ⟨8, 0, [], 0, false, r, key, false, emp, 0, emp, emp, 0, 0, []⟩)] [] (Ret (str (kB 8 ++ X1 ++ X2))) := by
  have s1 : (kB 8).size + X1.size ≤ 9223372036854775807 := by
    (try simp only [size_append])
    have : (kB 8).size = 1 := rfl
    omega
  have s2 : (kB 8 ++ X1).size + X2.size ≤ 9223372036854775807 := by
    (try simp only [size_append])
    have : (kB 8).size = 1 := rfl
    omega
  refine acalls_of_awp hT mixed Try.func12 rfl (by kernel_rfl) (by kernel_rfl) (Nat.le_of_ble_eq_true rfl) ?_
  refine ⟨[0, 0, 0, 0, 1, 1, 0, 0, 2, 2, 2], [[], [], [1], [1, 2], [1, 2, 3], [0, 1, 2, 3, 4], [], [6], [1, 2, 3, 4, 6, 7], [0, 1, 2, 3, 4, 5, 6, 7, 8], [0, 1, 2, 3, 4, 5, 6, 7, 8, 9]], [0, 0, 0, 0, 0, 0, 0, 0, 0, 0, 0], [4, 8], [[3], [1], [69], [70], [71], [68, 72], [1], [74], [75], [73, 76], [77]], Ob.intro (by kernel_rfl) ?_⟩
  repeat first | refine same ?_ | refine Ob.intro s1 ?_ | refine Ob.intro s2 ?_
  refine callP c0 rfl rfl ?_
  repeat first | refine same ?_ | refine Ob.intro s1 ?_ | refine Ob.intro s2 ?_
  refine callP c1 rfl rfl ?_
  repeat first | refine same ?_ | refine Ob.intro s1 ?_ | refine Ob.intro s2 ?_
  refine end0 rfl rfl rfl ?_
  rfl
theorem rp_9 (r : Int) (key : ByteArray) (vn : Bool) (vt : ByteArray) (vb : Nat) (X1 X2 X3 : ByteArray) (hX1 : X1.size ≤ 1000) (hX2 : X2.size ≤ 1000) (hX3 : X3.size ≤ 1000) (P : ByteArray) (c0 : ACalls Try.prog 35 [u64 (wrp .u64 r)] [] (Ret (str X1))) (c1 : ACalls Try.prog 38 [str key] [] (Ret (str X2))) (c2 : ACalls Try.prog 39 [.agg [bo vn, str vt, u64n vb]] [] (Ret (str P))) (c3 : ACalls Try.prog 38 [str P] [] (Ret (str X3))) : ACalls Try.prog 12 [.agg (Rq.C ⟨9, 0, [], 0, false, r, key, vn, vt, vb, emp, emp, 0, 0, []⟩)] [] (Ret (str (kB 9 ++ X1 ++ X2 ++ X3))) := by
  have s1 : (kB 9).size + X1.size ≤ 9223372036854775807 := by
    (try simp only [size_append])
    have : (kB 9).size = 1 := rfl
    omega
  have s2 : (kB 9 ++ X1).size + X2.size ≤ 9223372036854775807 := by
    (try simp only [size_append])
    have : (kB 9).size = 1 := rfl
    omega
  have s3 : (kB 9 ++ X1 ++ X2).size + X3.size ≤ 9223372036854775807 := by
    (try simp only [size_append])
    have : (kB 9).size = 1 := rfl
    omega
  cases vn <;>
  · refine acalls_of_awp hT mixed Try.func12 rfl (by kernel_rfl) (by kernel_rfl) (Nat.le_of_ble_eq_true rfl) ?_
    refine ⟨[0, 0, 0, 0, 1, 1, 0, 0, 2, 2, 2], [[], [], [1], [1, 2], [1, 2, 3], [0, 1, 2, 3, 4], [], [6], [1, 2, 3, 4, 6, 7], [0, 1, 2, 3, 4, 5, 6, 7, 8], [0, 1, 2, 3, 4, 5, 6, 7, 8, 9]], [0, 0, 0, 0, 0, 0, 0, 0, 0, 0, 0], [4, 8], [[3], [1], [69], [70], [71], [68, 72], [1], [74], [75], [73, 76], [77]], Ob.intro (by kernel_rfl) ?_⟩
    repeat first | refine same ?_ | refine Ob.intro s1 ?_ | refine Ob.intro s2 ?_ | refine Ob.intro s3 ?_
    refine callP c0 rfl rfl ?_
    repeat first | refine same ?_ | refine Ob.intro s1 ?_ | refine Ob.intro s2 ?_ | refine Ob.intro s3 ?_
    refine callP c1 rfl rfl ?_
    repeat first | refine same ?_ | refine Ob.intro s1 ?_ | refine Ob.intro s2 ?_ | refine Ob.intro s3 ?_
    refine callP c2 rfl rfl ?_
    repeat first | refine same ?_ | refine Ob.intro s1 ?_ | refine Ob.intro s2 ?_ | refine Ob.intro s3 ?_
    refine callP c3 rfl rfl ?_
    repeat first | refine same ?_ | refine Ob.intro s1 ?_ | refine Ob.intro s2 ?_ | refine Ob.intro s3 ?_
    refine end0 rfl rfl rfl ?_
    rfl
theorem rp_10 (r : Int) (key : ByteArray) (X1 X2 : ByteArray) (hX1 : X1.size ≤ 1000) (hX2 : X2.size ≤ 1000) (c0 : ACalls Try.prog 35 [u64 (wrp .u64 r)] [] (Ret (str X1))) (c1 : ACalls Try.prog 38 [str key] [] (Ret (str X2))) : ACalls Try.prog 12 [.agg (Rq.C ⟨10, 0, [], 0, false, r, key, false, emp, 0, emp, emp, 0, 0, []⟩)] [] (Ret (str (kB 10 ++ X1 ++ X2))) := by
  have s1 : (kB 10).size + X1.size ≤ 9223372036854775807 := by
    (try simp only [size_append])
    have : (kB 10).size = 1 := rfl
    omega
  have s2 : (kB 10 ++ X1).size + X2.size ≤ 9223372036854775807 := by
    (try simp only [size_append])
    have : (kB 10).size = 1 := rfl
    omega
  refine acalls_of_awp hT mixed Try.func12 rfl (by kernel_rfl) (by kernel_rfl) (Nat.le_of_ble_eq_true rfl) ?_
  refine ⟨[0, 0, 0, 0, 1, 1, 0, 0, 2, 2, 2], [[], [], [1], [1, 2], [1, 2, 3], [0, 1, 2, 3, 4], [], [6], [1, 2, 3, 4, 6, 7], [0, 1, 2, 3, 4, 5, 6, 7, 8], [0, 1, 2, 3, 4, 5, 6, 7, 8, 9]], [0, 0, 0, 0, 0, 0, 0, 0, 0, 0, 0], [4, 8], [[3], [1], [69], [70], [71], [68, 72], [1], [74], [75], [73, 76], [77]], Ob.intro (by kernel_rfl) ?_⟩
  repeat first | refine same ?_ | refine Ob.intro s1 ?_ | refine Ob.intro s2 ?_
  refine callP c0 rfl rfl ?_
  repeat first | refine same ?_ | refine Ob.intro s1 ?_ | refine Ob.intro s2 ?_
  refine callP c1 rfl rfl ?_
  repeat first | refine same ?_ | refine Ob.intro s1 ?_ | refine Ob.intro s2 ?_
  refine end0 rfl rfl rfl ?_
  rfl
theorem rp_11 (l : List Nat) (fr : ByteArray) (t : ByteArray) (lim : Int) (X1 X2 X3 X4 : ByteArray) (hX1 : X1.size ≤ 1000) (hX2 : X2.size ≤ 1000) (hX3 : X3.size ≤ 1000) (hX4 : X4.size ≤ 1000) (c0 : ACalls Try.prog 36 [us l] [] (Ret (str X1))) (c1 : ACalls Try.prog 38 [str fr] [] (Ret (str X2))) (c2 : ACalls Try.prog 38 [str t] [] (Ret (str X3))) (c3 : ACalls Try.prog 35 [u64 (wrp .u64 lim)] [] (Ret (str X4))) : ACalls Try.prog 12 [.agg (Rq.C ⟨11, 0, l, 0, false, 0, emp, false, emp, 0, fr, t, lim, 0, []⟩)] [] (Ret (str (kB 11 ++ X1 ++ X2 ++ X3 ++ X4))) := by
  have s1 : (kB 11).size + X1.size ≤ 9223372036854775807 := by
    (try simp only [size_append])
    have : (kB 11).size = 1 := rfl
    omega
  have s2 : (kB 11 ++ X1).size + X2.size ≤ 9223372036854775807 := by
    (try simp only [size_append])
    have : (kB 11).size = 1 := rfl
    omega
  have s3 : (kB 11 ++ X1 ++ X2).size + X3.size ≤ 9223372036854775807 := by
    (try simp only [size_append])
    have : (kB 11).size = 1 := rfl
    omega
  have s4 : (kB 11 ++ X1 ++ X2 ++ X3).size + X4.size ≤ 9223372036854775807 := by
    (try simp only [size_append])
    have : (kB 11).size = 1 := rfl
    omega
  refine acalls_of_awp hT mixed Try.func12 rfl (by kernel_rfl) (by kernel_rfl) (Nat.le_of_ble_eq_true rfl) ?_
  refine callP c0 rfl rfl ?_
  repeat first | refine same ?_ | refine Ob.intro s1 ?_ | refine Ob.intro s2 ?_ | refine Ob.intro s3 ?_ | refine Ob.intro s4 ?_
  refine ⟨[0, 0, 0, 0, 1, 1, 0, 0, 0, 2, 2, 0, 0, 0, 0, 3, 3, 3], [[], [], [1], [1, 2], [1, 2, 3], [0, 1, 2, 3, 4], [], [6], [6, 7], [1, 2, 3, 4, 6, 7, 8], [0, 1, 2, 3, 4, 5, 6, 7, 8, 9], [], [11], [11, 12], [11, 12, 13], [1, 2, 3, 4, 6, 7, 8, 9, 11, 12, 13, 14], [0, 1, 2, 3, 4, 5, 6, 7, 8, 9, 10, 11, 12, 13, 14, 15], [0, 1, 2, 3, 4, 5, 6, 7, 8, 9, 10, 11, 12, 13, 14, 15, 16]], [0, 0, 0, 0, 0, 0, 0, 0, 0, 0, 0, 0, 0, 0, 0, 0, 0, 0], [4, 9, 15], [[3], [1], [93], [94], [95], [92, 96], [1], [98], [99], [100], [97, 101], [1], [103], [104], [105], [106], [102, 107], [108]], Ob.intro (by kernel_rfl) ?_⟩
  repeat first | refine same ?_ | refine Ob.intro s1 ?_ | refine Ob.intro s2 ?_ | refine Ob.intro s3 ?_ | refine Ob.intro s4 ?_
  refine callP c1 rfl rfl ?_
  repeat first | refine same ?_ | refine Ob.intro s1 ?_ | refine Ob.intro s2 ?_ | refine Ob.intro s3 ?_ | refine Ob.intro s4 ?_
  refine callP c2 rfl rfl ?_
  repeat first | refine same ?_ | refine Ob.intro s1 ?_ | refine Ob.intro s2 ?_ | refine Ob.intro s3 ?_ | refine Ob.intro s4 ?_
  refine callP c3 rfl rfl ?_
  repeat first | refine same ?_ | refine Ob.intro s1 ?_ | refine Ob.intro s2 ?_ | refine Ob.intro s3 ?_ | refine Ob.intro s4 ?_
  refine end0 rfl rfl rfl ?_
  rfl
theorem rp_12   : ACalls Try.prog 12 [.agg (Rq.C ⟨12, 0, [], 0, false, 0, emp, false, emp, 0, emp, emp, 0, 0, []⟩)] [] (Ret (str (kB 12))) := by
  refine acalls_of_awp hT mixed Try.func12 rfl (by kernel_rfl) (by kernel_rfl) (Nat.le_of_ble_eq_true rfl) ?_
  refine end0 rfl rfl rfl ?_
  rfl
theorem rp_13 (n : Int) (X1 : ByteArray) (hX1 : X1.size ≤ 1000) (c0 : ACalls Try.prog 35 [u64 (wrp .u64 n)] [] (Ret (str X1))) : ACalls Try.prog 12 [.agg (Rq.C ⟨13, 0, [], 0, false, 0, emp, false, emp, 0, emp, emp, 0, n, []⟩)] [] (Ret (str (kB 13 ++ X1))) := by
  have s1 : (kB 13).size + X1.size ≤ 9223372036854775807 := by
    (try simp only [size_append])
    have : (kB 13).size = 1 := rfl
    omega
  refine acalls_of_awp hT mixed Try.func12 rfl (by kernel_rfl) (by kernel_rfl) (Nat.le_of_ble_eq_true rfl) ?_
  refine callP c0 rfl rfl ?_
  repeat first | refine same ?_ | refine Ob.intro s1 ?_
  refine end0 rfl rfl rfl ?_
  rfl
theorem rp_14   : ACalls Try.prog 12 [.agg (Rq.C ⟨14, 0, [], 0, false, 0, emp, false, emp, 0, emp, emp, 0, 0, []⟩)] [] (Ret (str (kB 14))) := by
  refine acalls_of_awp hT mixed Try.func12 rfl (by kernel_rfl) (by kernel_rfl) (Nat.le_of_ble_eq_true rfl) ?_
  refine end0 rfl rfl rfl ?_
  rfl
theorem rp_15   : ACalls Try.prog 12 [.agg (Rq.C ⟨15, 0, [], 0, false, 0, emp, false, emp, 0, emp, emp, 0, 0, []⟩)] [] (Ret (str (kB 15))) := by
  refine acalls_of_awp hT mixed Try.func12 rfl (by kernel_rfl) (by kernel_rfl) (Nat.le_of_ble_eq_true rfl) ?_
  refine end0 rfl rfl rfl ?_
  rfl
theorem rp_17 (l : List Nat) (fr : ByteArray) (t : ByteArray) (lim : Int) (X1 X2 X3 X4 : ByteArray) (hX1 : X1.size ≤ 1000) (hX2 : X2.size ≤ 1000) (hX3 : X3.size ≤ 1000) (hX4 : X4.size ≤ 1000) (c0 : ACalls Try.prog 36 [us l] [] (Ret (str X1))) (c1 : ACalls Try.prog 38 [str fr] [] (Ret (str X2))) (c2 : ACalls Try.prog 38 [str t] [] (Ret (str X3))) (c3 : ACalls Try.prog 35 [u64 (wrp .u64 lim)] [] (Ret (str X4))) : ACalls Try.prog 12 [.agg (Rq.C ⟨17, 0, l, 0, false, 0, emp, false, emp, 0, fr, t, lim, 0, []⟩)] [] (Ret (str (kB 17 ++ X1 ++ X2 ++ X3 ++ X4))) := by
  have s1 : (kB 17).size + X1.size ≤ 9223372036854775807 := by
    (try simp only [size_append])
    have : (kB 17).size = 1 := rfl
    omega
  have s2 : (kB 17 ++ X1).size + X2.size ≤ 9223372036854775807 := by
    (try simp only [size_append])
    have : (kB 17).size = 1 := rfl
    omega
  have s3 : (kB 17 ++ X1 ++ X2).size + X3.size ≤ 9223372036854775807 := by
    (try simp only [size_append])
    have : (kB 17).size = 1 := rfl
    omega
  have s4 : (kB 17 ++ X1 ++ X2 ++ X3).size + X4.size ≤ 9223372036854775807 := by
    (try simp only [size_append])
    have : (kB 17).size = 1 := rfl
    omega
  refine acalls_of_awp hT mixed Try.func12 rfl (by kernel_rfl) (by kernel_rfl) (Nat.le_of_ble_eq_true rfl) ?_
  refine callP c0 rfl rfl ?_
  repeat first | refine same ?_ | refine Ob.intro s1 ?_ | refine Ob.intro s2 ?_ | refine Ob.intro s3 ?_ | refine Ob.intro s4 ?_
  refine ⟨[0, 0, 0, 0, 1, 1, 0, 0, 0, 2, 2, 0, 0, 0, 0, 3, 3, 3], [[], [], [1], [1, 2], [1, 2, 3], [0, 1, 2, 3, 4], [], [6], [6, 7], [1, 2, 3, 4, 6, 7, 8], [0, 1, 2, 3, 4, 5, 6, 7, 8, 9], [], [11], [11, 12], [11, 12, 13], [1, 2, 3, 4, 6, 7, 8, 9, 11, 12, 13, 14], [0, 1, 2, 3, 4, 5, 6, 7, 8, 9, 10, 11, 12, 13, 14, 15], [0, 1, 2, 3, 4, 5, 6, 7, 8, 9, 10, 11, 12, 13, 14, 15, 16]], [0, 0, 0, 0, 0, 0, 0, 0, 0, 0, 0, 0, 0, 0, 0, 0, 0, 0], [4, 9, 15], [[3], [1], [93], [94], [95], [92, 96], [1], [98], [99], [100], [97, 101], [1], [103], [104], [105], [106], [102, 107], [108]], Ob.intro (by kernel_rfl) ?_⟩
  repeat first | refine same ?_ | refine Ob.intro s1 ?_ | refine Ob.intro s2 ?_ | refine Ob.intro s3 ?_ | refine Ob.intro s4 ?_
  refine callP c1 rfl rfl ?_
  repeat first | refine same ?_ | refine Ob.intro s1 ?_ | refine Ob.intro s2 ?_ | refine Ob.intro s3 ?_ | refine Ob.intro s4 ?_
  refine callP c2 rfl rfl ?_
  repeat first | refine same ?_ | refine Ob.intro s1 ?_ | refine Ob.intro s2 ?_ | refine Ob.intro s3 ?_ | refine Ob.intro s4 ?_
  refine callP c3 rfl rfl ?_
  repeat first | refine same ?_ | refine Ob.intro s1 ?_ | refine Ob.intro s2 ?_ | refine Ob.intro s3 ?_ | refine Ob.intro s4 ?_
  refine end0 rfl rfl rfl ?_
  rfl
end Go.Proofs.Ytgchhmfobkcnfaa.A

namespace Go.Proofs.Ytgchhmfobkcnfaa.A
open Go
set_option linter.unusedVariables false
set_option linter.unusedSimpArgs false
set_option maxRecDepth 100000
set_option pp.maxSteps 400

theorem rp_16 (r : Int) (key : ByteArray) (c : List (Int × Nat)) (X1 X2 : ByteArray) (hX1 : X1.size ≤ 1000) (hX2 : X2.size ≤ 1000) (hcl : c.length ≤ 32) (hop : ∀ x ∈ c, 1 ≤ x.1 ∧ x.1 ≤ 16) (hb : ∀ x ∈ c, x.2 < 18446744073709551616)
    (c0 : ACalls Try.prog 35 [u64 (wrp .u64 r)] [] (Ret (str X1))) (c1 : ACalls Try.prog 38 [str key] [] (Ret (str X2))) : ACalls Try.prog 12 [.agg (Rq.C ⟨16, 0, [], 0, false, r, key, false, emp, 0, emp, emp, 0, 0, c⟩)] [] (Ret (str (kB 16 ++ X1 ++ X2 ++ BA (cdsB c c.length)))) := by
  have s1 : (kB 16).size + X1.size ≤ 9223372036854775807 := by
    have : (kB 16).size = 1 := rfl
    omega
  have s2 : (kB 16 ++ X1).size + X2.size ≤ 9223372036854775807 := by
    simp only [size_append]
    have : (kB 16).size = 1 := rfl
    omega
  have s3 : (kB 16 ++ X1 ++ X2).size + (BA (cdsB c 0)).size ≤ 9223372036854775807 := by
    simp only [size_append]
    have : (kB 16).size = 1 := rfl
    have l1 := numN_len10 (show c.length < 18446744073709551616 by omega)
    have : cdsB c 0 = numN c.length := by unfold cdsB; simp
    rw [BA_size, this]
    omega
  have c2 := rn20_i c.length (by omega)
  rw [Int.toNat_natCast, show BA (numN c.length) = BA (cdsB c 0) by unfold cdsB; simp] at c2
  have hlj : ∀ j, (cdsB c j).length ≤ 10 + 20 * c.length := fun j => by
    have l1 := numN_len10 (show c.length < 18446744073709551616 by omega)
    have := flat_len20 (L := c.take j) fun x hx => cdB_len (hop x (List.mem_of_mem_take hx)).2 (hb x (List.mem_of_mem_take hx))
    rw [List.length_take] at this
    unfold cdsB
    rw [List.length_append]
    omega
  have hZ : (kB 16 ++ X1 ++ X2).size ≤ 3000 := by
    simp only [size_append]
    have : (kB 16).size = 1 := rfl
    omega
  refine acalls_of_awp hT mixed Try.func12 rfl (by kernel_rfl) (by kernel_rfl) (Nat.le_of_ble_eq_true rfl) ?_
  refine ⟨[0, 0, 0, 0, 1, 1, 0, 0, 2, 2, 2], [[], [], [1], [1, 2], [1, 2, 3], [0, 1, 2, 3, 4], [], [6], [1, 2, 3, 4, 6, 7], [0, 1, 2, 3, 4, 5, 6, 7, 8], [0, 1, 2, 3, 4, 5, 6, 7, 8, 9]], [0, 0, 0, 0, 0, 0, 0, 0, 0, 0, 0], [4, 8], [[3], [1], [69], [70], [71], [68, 72], [1], [74], [75], [73, 76], [77]], Ob.intro (by kernel_rfl) ?_⟩
  repeat first | refine same ?_ | refine Ob.intro s1 ?_ | refine Ob.intro s2 ?_
  refine callP c0 rfl rfl ?_
  repeat first | refine same ?_ | refine Ob.intro s1 ?_ | refine Ob.intro s2 ?_
  refine callP c1 rfl rfl ?_
  repeat first | refine same ?_ | refine Ob.intro s1 ?_ | refine Ob.intro s2 ?_
  refine callP c2 rfl rfl ?_
  refine Ob.intro s3 ?_
  refine loopI (α := { j : Nat // j ≤ c.length }) (fun x => [(1, .ptr 0 0), (3, str (kB 16 ++ X1 ++ X2 ++ BA (cdsB c x.val))), (5, i64 (x.val : Nat))]) (fun _ => [.row (Rq.C ⟨16, 0, [], 0, false, r, key, false, emp, 0, emp, emp, 0, 0, c⟩)]) (fun x => c.length - x.val) ⟨0, Nat.zero_le _⟩ [0] ⟨⟨rfl, rfl, rfl, True.intro⟩, ⟨.inl rfl, True.intro⟩, rfl, rfl, rfl⟩ ?_
  rintro ⟨j, hj⟩ K hK
  have hinc : wrp .i64 ((j : Int) + 1) = ((j + 1 : Nat) : Int) := by rw [wrpE, wi64]; omega
  refine forkD (fun h => ?_) (fun h => ?_)
  · have h' : j < c.length := by have : (j : Int) < (c.length : Int) := h; omega
    obtain ⟨x, hxj⟩ : ∃ x, c[j]? = some x := ⟨_, List.getElem?_eq_getElem h'⟩
    have hik : (0 : Int) ≤ (j : Nat) ∧ ((j : Nat) : Int) < (c.length : Nat) := by omega
    have hmem := List.mem_of_getElem? hxj
    have ho := hop x hmem
    have hbx := hb x hmem
    have h0 := cd_op hxj
    have h1 := cd_bits hxj
    have hsn := cdsB_snoc hxj
    have hl1 := hlj j
    obtain ⟨op, b⟩ := x
    dsimp only at ho hbx h0 h1
    have n1 := rn20_i op (by omega)
    have n2 := rn20_ok b hbx
    have e1 := numN_len10 (show op.toNat < 18446744073709551616 by omega)
    have e2 := numN_len10 hbx
    have ecd : BA (cdB (op, b)) = BA (numN op.toNat) ++ BA (numN b) := by rw [BA_append]; rfl
    have hsn' : kB 16 ++ X1 ++ X2 ++ BA (cdsB c j) ++ BA (numN op.toNat) ++ BA (numN b) = kB 16 ++ X1 ++ X2 ++ BA (cdsB c (j + 1)) := by
      rw [← hsn, ecd]
      simp only [ByteArray.append_assoc]
    have z1 : (kB 16 ++ X1 ++ X2 ++ BA (cdsB c j)).size + (BA (numN op.toNat)).size ≤ 9223372036854775807 := by rw [size_append, BA_size, BA_size]; omega
    have z2 : (kB 16 ++ X1 ++ X2 ++ BA (cdsB c j) ++ BA (numN op.toNat)).size + (BA (numN b)).size ≤ 9223372036854775807 := by rw [size_append, size_append, BA_size, BA_size, BA_size]; omega
    generalize kB 16 ++ X1 ++ X2 = Z at *
    generalize BA (cdsB c j) = A at *
    generalize BA (numN op.toNat) = N1 at *
    generalize BA (numN b) = N2 at *
    refine ⟨[0, 0, 0, 0, 0, 0, 0, 0, 1, 1, 0, 0, 0, 0, 0, 0, 2, 2, 2], [[], [], [1], [], [1, 2, 3], [1, 2, 3, 4], [1, 2, 3, 4, 5], [1, 2, 3, 4, 5, 6], [1, 2, 3, 4, 5, 6, 7], [0, 1, 2, 3, 4, 5, 6, 7, 8], [], [10], [], [10, 11, 12], [10, 11, 12, 13], [10, 11, 12, 13, 14], [1, 2, 3, 4, 5, 6, 7, 8, 10, 11, 12, 13, 14, 15], [0, 1, 2, 3, 4, 5, 6, 7, 8, 9, 10, 11, 12, 13, 14, 15, 16], [0, 1, 2, 3, 4, 5, 6, 7, 8, 9, 10, 11, 12, 13, 14, 15, 16, 17]], [0, 0, 0, 0, 0, 0, 0, 0, 0, 0, 0, 0, 0, 0, 0, 0, 0, 0, 0], [8, 16], [[3], [1], [134], [5], [135, 136], [137], [138], [139], [140], [133, 141], [1], [143], [5], [144, 145], [146], [147], [148], [142, 149], [150]], Ob.intro (by kernel_rfl) ?_⟩
    repeat first | refine same ?_ | refine Ob.intro hik ?_ | refine optK_intro h0 ?_ | refine optK_intro h1 ?_ | refine Ob.intro z1 ?_ | refine Ob.intro z2 ?_
    refine callP n1 rfl rfl ?_
    repeat first | refine same ?_ | refine Ob.intro hik ?_ | refine optK_intro h0 ?_ | refine optK_intro h1 ?_ | refine Ob.intro z1 ?_ | refine Ob.intro z2 ?_
    refine callP n2 rfl rfl ?_
    repeat first | refine same ?_ | refine Ob.intro hik ?_ | refine optK_intro h0 ?_ | refine optK_intro h1 ?_ | refine Ob.intro z1 ?_ | refine Ob.intro z2 ?_
    refine hK ⟨j + 1, h'⟩ [0] _ (show c.length - j = c.length - (j + 1) + 1 by omega) ⟨⟨rfl, congrArg str hsn', congrArg i64 hinc, True.intro⟩, ⟨.inl rfl, True.intro⟩, rfl, rfl, rfl⟩
  · have h' : j = c.length := by have : ¬ (j : Int) < (c.length : Int) := h; omega
    have hX : kB 16 ++ X1 ++ X2 ++ BA (cdsB c j) = kB 16 ++ X1 ++ X2 ++ BA (cdsB c c.length) := by rw [h']
    refine end0 rfl rfl rfl (congrArg str hX)
end Go.Proofs.Ytgchhmfobkcnfaa.A

namespace Go.Proofs.Ytgchhmfobkcnfaa.A
open Go
set_option linter.unusedVariables false
set_option linter.unusedSimpArgs false
set_option maxRecDepth 100000
set_option pp.maxSteps 400

theorem rpack20_ok (q : Rq) (h : q.ok) (hr : rqB q = true) : ACalls Try.prog 12 [.agg q.C] [] (Ret (str (BA (pkB q)))) := by
  obtain ⟨hk, hb, hnm⟩ := (rq_iff q).1 hr
  have hfb : ∀ f ∈ fldL q.k, (fB q f).length ≤ 700 := fun f hf => fB_len h (by have := fldL_lt hf; omega) (hnm f hf)
  obtain ⟨k, w, l, g, m, r, key, vn, vt, vb, fr, t, lim, n, c⟩ := q
  obtain ⟨hl, hx, hg, hvb, hc, hcb⟩ := h
  obtain ⟨-, h0, h1, h2, h3, h4, h5, ⟨h6, h6', h6''⟩, ⟨h7, h7', h7''⟩, h8, h9⟩ := mem_sw.1 hb
  clear hb hr
  dsimp only at *
  have hk17 : k = 1 ∨ k = 2 ∨ k = 3 ∨ k = 4 ∨ k = 5 ∨ k = 6 ∨ k = 7 ∨ k = 8 ∨ k = 9 ∨ k = 10 ∨ k = 11 ∨ k = 12 ∨ k = 13 ∨ k = 14 ∨ k = 15 ∨ k = 16 ∨ k = 17 := by omega
  rcases hk17 with rfl | rfl | rfl | rfl | rfl | rfl | rfl | rfl | rfl | rfl | rfl | rfl | rfl | rfl | rfl | rfl | rfl
  · obtain rfl : l = [] := h1
    obtain rfl : g = 0 := h2
    obtain rfl : m = false := h3
    obtain rfl : r = 0 := h4
    obtain rfl : key = emp := h5
    obtain rfl : vn = false := h6
    obtain rfl : vt = emp := h6'
    obtain rfl : vb = 0 := h6''
    obtain rfl : fr = emp := h7
    obtain rfl : t = emp := h7'
    obtain rfl : lim = 0 := h7''
    obtain rfl : n = 0 := h8
    obtain rfl : c = [] := h9
    have b0 : 0 ≤ w ∧ w ≤ 7 := of_decide_eq_true (hnm 0 (by decide))
    have f0 := hfb 0 (by decide)
    replace f0 : (numN w.toNat).length ≤ 700 := f0
    have e : kB 1 ++ BA (numN w.toNat) = BA (pkB (Rq.mk 1 w [] 0 false 0 emp false emp 0 emp emp 0 0 [])) := by
      rw [show kB 1 = BA [1] from kB_eq 1 (by decide), BA_append]
      refine congrArg BA ?_
      show _ = 1 :: (fB (Rq.mk 1 w [] 0 false 0 emp false emp 0 emp emp 0 0 []) 0 ++ [])
      simp only [fB, List.append_assoc, List.append_nil, List.cons_append, List.nil_append]
    rw [← e]
    exact rp_1 w (BA (numN w.toNat)) (by rw [BA_size]; omega) (rn20_i w (by omega))
  · obtain rfl : w = 0 := h0
    obtain rfl : l = [] := h1
    obtain rfl : g = 0 := h2
    obtain rfl : m = false := h3
    obtain rfl : r = 0 := h4
    obtain rfl : key = emp := h5
    obtain rfl : vn = false := h6
    obtain rfl : vt = emp := h6'
    obtain rfl : vb = 0 := h6''
    obtain rfl : fr = emp := h7
    obtain rfl : t = emp := h7'
    obtain rfl : lim = 0 := h7''
    obtain rfl : n = 0 := h8
    obtain rfl : c = [] := h9
    have e : kB 2 = BA (pkB (Rq.mk 2 0 [] 0 false 0 emp false emp 0 emp emp 0 0 [])) := by
      rw [show kB 2 = BA [2] from kB_eq 2 (by decide)]
      refine congrArg BA ?_
      show _ = 2 :: []
      rfl
    rw [← e]
    exact rp_2    
  · obtain rfl : w = 0 := h0
    obtain rfl : g = 0 := h2
    obtain rfl : m = false := h3
    obtain rfl : r = 0 := h4
    obtain rfl : key = emp := h5
    obtain rfl : vn = false := h6
    obtain rfl : vt = emp := h6'
    obtain rfl : vb = 0 := h6''
    obtain rfl : fr = emp := h7
    obtain rfl : t = emp := h7'
    obtain rfl : lim = 0 := h7''
    obtain rfl : n = 0 := h8
    obtain rfl : c = [] := h9
    have b1 := rightB_len (l := l) (hnm 1 (by decide))
    have f1 := hfb 1 (by decide)
    replace f1 : (packN l).length ≤ 700 := f1
    have e : kB 3 ++ BA (packN l) = BA (pkB (Rq.mk 3 0 l 0 false 0 emp false emp 0 emp emp 0 0 [])) := by
      rw [show kB 3 = BA [3] from kB_eq 3 (by decide), BA_append]
      refine congrArg BA ?_
      show _ = 3 :: (fB (Rq.mk 3 0 l 0 false 0 emp false emp 0 emp emp 0 0 []) 1 ++ [])
      simp only [fB, List.append_assoc, List.append_nil, List.cons_append, List.nil_append]
    rw [← e]
    exact rp_3 l (BA (packN l)) (by rw [BA_size]; omega) (rpack_ok l (by omega) hx)
  · obtain rfl : w = 0 := h0
    obtain rfl : l = [] := h1
    obtain rfl : m = false := h3
    obtain rfl : r = 0 := h4
    obtain rfl : key = emp := h5
    obtain rfl : vn = false := h6
    obtain rfl : vt = emp := h6'
    obtain rfl : vb = 0 := h6''
    obtain rfl : fr = emp := h7
    obtain rfl : t = emp := h7'
    obtain rfl : lim = 0 := h7''
    obtain rfl : n = 0 := h8
    obtain rfl : c = [] := h9
    have f2 := hfb 2 (by decide)
    replace f2 : (numN g).length ≤ 700 := f2
    have e : kB 4 ++ BA (numN g) = BA (pkB (Rq.mk 4 0 [] g false 0 emp false emp 0 emp emp 0 0 [])) := by
      rw [show kB 4 = BA [4] from kB_eq 4 (by decide), BA_append]
      refine congrArg BA ?_
      show _ = 4 :: (fB (Rq.mk 4 0 [] g false 0 emp false emp 0 emp emp 0 0 []) 2 ++ [])
      simp only [fB, List.append_assoc, List.append_nil, List.cons_append, List.nil_append]
    rw [← e]
    exact rp_4 g (BA (numN g)) (by rw [BA_size]; omega) (rn20_ok g hg)
  · obtain rfl : w = 0 := h0
    obtain rfl : l = [] := h1
    obtain rfl : g = 0 := h2
    obtain rfl : m = false := h3
    obtain rfl : r = 0 := h4
    obtain rfl : key = emp := h5
    obtain rfl : vn = false := h6
    obtain rfl : vt = emp := h6'
    obtain rfl : vb = 0 := h6''
    obtain rfl : fr = emp := h7
    obtain rfl : t = emp := h7'
    obtain rfl : lim = 0 := h7''
    obtain rfl : n = 0 := h8
    obtain rfl : c = [] := h9
    have e : kB 5 = BA (pkB (Rq.mk 5 0 [] 0 false 0 emp false emp 0 emp emp 0 0 [])) := by
      rw [show kB 5 = BA [5] from kB_eq 5 (by decide)]
      refine congrArg BA ?_
      show _ = 5 :: []
      rfl
    rw [← e]
    exact rp_5    
  · obtain rfl : l = [] := h1
    obtain rfl : r = 0 := h4
    obtain rfl : key = emp := h5
    obtain rfl : vn = false := h6
    obtain rfl : vt = emp := h6'
    obtain rfl : vb = 0 := h6''
    obtain rfl : fr = emp := h7
    obtain rfl : t = emp := h7'
    obtain rfl : lim = 0 := h7''
    obtain rfl : n = 0 := h8
    obtain rfl : c = [] := h9
    have b0 : 0 ≤ w ∧ w ≤ 7 := of_decide_eq_true (hnm 0 (by decide))
    have f0 := hfb 0 (by decide)
    have f2 := hfb 2 (by decide)
    have f3 := hfb 3 (by decide)
    replace f0 : (numN w.toNat).length ≤ 700 := f0
    replace f2 : (numN g).length ≤ 700 := f2
    replace f3 : ([bN m]).length ≤ 700 := f3
    have e : kB 6 ++ BA (numN w.toNat) ++ BA (numN g) ++ BA ([bN m]) = BA (pkB (Rq.mk 6 w [] g m 0 emp false emp 0 emp emp 0 0 [])) := by
      rw [show kB 6 = BA [6] from kB_eq 6 (by decide), BA_append, BA_append, BA_append]
      refine congrArg BA ?_
      show _ = 6 :: (fB (Rq.mk 6 w [] g m 0 emp false emp 0 emp emp 0 0 []) 0 ++ (fB (Rq.mk 6 w [] g m 0 emp false emp 0 emp emp 0 0 []) 2 ++ (fB (Rq.mk 6 w [] g m 0 emp false emp 0 emp emp 0 0 []) 3 ++ [])))
      simp only [fB, List.append_assoc, List.append_nil, List.cons_append, List.nil_append]
    rw [← e]
    exact rp_6 w g m (BA (numN w.toNat)) (BA (numN g)) (BA ([bN m])) (by rw [BA_size]; omega) (by rw [BA_size]; omega) (by rw [BA_size]; omega) (rn20_i w (by omega)) (rn20_ok g hg) (rbit20_ok m)
  · obtain rfl : w = 0 := h0
    obtain rfl : l = [] := h1
    obtain rfl : g = 0 := h2
    obtain rfl : m = false := h3
    obtain rfl : r = 0 := h4
    obtain rfl : key = emp := h5
    obtain rfl : vn = false := h6
    obtain rfl : vt = emp := h6'
    obtain rfl : vb = 0 := h6''
    obtain rfl : fr = emp := h7
    obtain rfl : t = emp := h7'
    obtain rfl : lim = 0 := h7''
    obtain rfl : n = 0 := h8
    obtain rfl : c = [] := h9
    have e : kB 7 = BA (pkB (Rq.mk 7 0 [] 0 false 0 emp false emp 0 emp emp 0 0 [])) := by
      rw [show kB 7 = BA [7] from kB_eq 7 (by decide)]
      refine congrArg BA ?_
      show _ = 7 :: []
      rfl
    rw [← e]
    exact rp_7    
  · obtain rfl : w = 0 := h0
    obtain rfl : l = [] := h1
    obtain rfl : g = 0 := h2
    obtain rfl : m = false := h3
    obtain rfl : vn = false := h6
    obtain rfl : vt = emp := h6'
    obtain rfl : vb = 0 := h6''
    obtain rfl : fr = emp := h7
    obtain rfl : t = emp := h7'
    obtain rfl : lim = 0 := h7''
    obtain rfl : n = 0 := h8
    obtain rfl : c = [] := h9
    have b4 : 0 ≤ r ∧ r ≤ 7 := of_decide_eq_true (hnm 4 (by decide))
    have f4 := hfb 4 (by decide)
    have b5 : 1 ≤ key.size ∧ key.size ≤ 32 := of_decide_eq_true (hnm 5 (by decide))
    have f5 := hfb 5 (by decide)
    replace f4 : (numN r.toNat).length ≤ 700 := f4
    replace f5 : (txB key).length ≤ 700 := f5
    have e : kB 8 ++ BA (numN r.toNat) ++ BA (txB key) = BA (pkB (Rq.mk 8 0 [] 0 false r key false emp 0 emp emp 0 0 [])) := by
      rw [show kB 8 = BA [8] from kB_eq 8 (by decide), BA_append, BA_append]
      refine congrArg BA ?_
      show _ = 8 :: (fB (Rq.mk 8 0 [] 0 false r key false emp 0 emp emp 0 0 []) 4 ++ (fB (Rq.mk 8 0 [] 0 false r key false emp 0 emp emp 0 0 []) 5 ++ []))
      simp only [fB, List.append_assoc, List.append_nil, List.cons_append, List.nil_append]
    rw [← e]
    exact rp_8 r key (BA (numN r.toNat)) (BA (txB key)) (by rw [BA_size]; omega) (by rw [BA_size]; omega) (rn20_i r (by omega)) (rt20_ok key (by omega))
  · obtain rfl : w = 0 := h0
    obtain rfl : l = [] := h1
    obtain rfl : g = 0 := h2
    obtain rfl : m = false := h3
    obtain rfl : fr = emp := h7
    obtain rfl : t = emp := h7'
    obtain rfl : lim = 0 := h7''
    obtain rfl : n = 0 := h8
    obtain rfl : c = [] := h9
    have b4 : 0 ≤ r ∧ r ≤ 7 := of_decide_eq_true (hnm 4 (by decide))
    have f4 := hfb 4 (by decide)
    have b5 : 1 ≤ key.size ∧ key.size ≤ 32 := of_decide_eq_true (hnm 5 (by decide))
    have f5 := hfb 5 (by decide)
    have b6 : (packV vn vt vb).size ≤ 65 := spackV_size (hnm 6 (by decide))
    have b6t := rightV_size (n := vn) (t := vt) (b := vb) (hnm 6 (by decide))
    have f6 := hfb 6 (by decide)
    replace f4 : (numN r.toNat).length ≤ 700 := f4
    replace f5 : (txB key).length ≤ 700 := f5
    replace f6 : (txB (packV vn vt vb)).length ≤ 700 := f6
    have e : kB 9 ++ BA (numN r.toNat) ++ BA (txB key) ++ BA (txB (packV vn vt vb)) = BA (pkB (Rq.mk 9 0 [] 0 false r key vn vt vb emp emp 0 0 [])) := by
      rw [show kB 9 = BA [9] from kB_eq 9 (by decide), BA_append, BA_append, BA_append]
      refine congrArg BA ?_
      show _ = 9 :: (fB (Rq.mk 9 0 [] 0 false r key vn vt vb emp emp 0 0 []) 4 ++ (fB (Rq.mk 9 0 [] 0 false r key vn vt vb emp emp 0 0 []) 5 ++ (fB (Rq.mk 9 0 [] 0 false r key vn vt vb emp emp 0 0 []) 6 ++ [])))
      simp only [fB, List.append_assoc, List.append_nil, List.cons_append, List.nil_append]
    rw [← e]
    exact rp_9 r key vn vt vb (BA (numN r.toNat)) (BA (txB key)) (BA (txB (packV vn vt vb))) (by rw [BA_size]; omega) (by rw [BA_size]; omega) (by rw [BA_size]; omega) (packV vn vt vb) (rn20_i r (by omega)) (rt20_ok key (by omega)) (rPack_ok vn vt vb hvb (by omega)) (rt20_ok (packV vn vt vb) (by omega))
  · obtain rfl : w = 0 := h0
    obtain rfl : l = [] := h1
    obtain rfl : g = 0 := h2
    obtain rfl : m = false := h3
    obtain rfl : vn = false := h6
    obtain rfl : vt = emp := h6'
    obtain rfl : vb = 0 := h6''
    obtain rfl : fr = emp := h7
    obtain rfl : t = emp := h7'
    obtain rfl : lim = 0 := h7''
    obtain rfl : n = 0 := h8
    obtain rfl : c = [] := h9
    have b4 : 0 ≤ r ∧ r ≤ 7 := of_decide_eq_true (hnm 4 (by decide))
    have f4 := hfb 4 (by decide)
    have b5 : 1 ≤ key.size ∧ key.size ≤ 32 := of_decide_eq_true (hnm 5 (by decide))
    have f5 := hfb 5 (by decide)
    replace f4 : (numN r.toNat).length ≤ 700 := f4
    replace f5 : (txB key).length ≤ 700 := f5
    have e : kB 10 ++ BA (numN r.toNat) ++ BA (txB key) = BA (pkB (Rq.mk 10 0 [] 0 false r key false emp 0 emp emp 0 0 [])) := by
      rw [show kB 10 = BA [10] from kB_eq 10 (by decide), BA_append, BA_append]
      refine congrArg BA ?_
      show _ = 10 :: (fB (Rq.mk 10 0 [] 0 false r key false emp 0 emp emp 0 0 []) 4 ++ (fB (Rq.mk 10 0 [] 0 false r key false emp 0 emp emp 0 0 []) 5 ++ []))
      simp only [fB, List.append_assoc, List.append_nil, List.cons_append, List.nil_append]
    rw [← e]
    exact rp_10 r key (BA (numN r.toNat)) (BA (txB key)) (by rw [BA_size]; omega) (by rw [BA_size]; omega) (rn20_i r (by omega)) (rt20_ok key (by omega))
  · obtain rfl : w = 0 := h0
    obtain rfl : g = 0 := h2
    obtain rfl : m = false := h3
    obtain rfl : r = 0 := h4
    obtain rfl : key = emp := h5
    obtain rfl : vn = false := h6
    obtain rfl : vt = emp := h6'
    obtain rfl : vb = 0 := h6''
    obtain rfl : n = 0 := h8
    obtain rfl : c = [] := h9
    have b1 := rightB_len (l := l) (hnm 1 (by decide))
    have f1 := hfb 1 (by decide)
    have b7 : rngB fr t lim = true ∧ (fr.size ≤ 32 ∧ t.size ≤ 32) := by
      have h : (rngB fr t lim && (decide (fr.size ≤ 32) && decide (t.size ≤ 32))) = true := hnm 7 (by decide)
      simp only [Bool.and_eq_true, decide_eq_true_eq] at h
      exact h
    have b7r : 1 ≤ lim ∧ lim ≤ 64 ∧ _ := of_decide_eq_true b7.1
    have f7 := hfb 7 (by decide)
    replace f1 : (packN l).length ≤ 700 := f1
    replace f7 : (txB fr ++ (txB t ++ (numN lim.toNat))).length ≤ 700 := f7
    rw [List.length_append, List.length_append] at f7
    have e : kB 11 ++ BA (packN l) ++ BA (txB fr) ++ BA (txB t) ++ BA (numN lim.toNat) = BA (pkB (Rq.mk 11 0 l 0 false 0 emp false emp 0 fr t lim 0 [])) := by
      rw [show kB 11 = BA [11] from kB_eq 11 (by decide), BA_append, BA_append, BA_append, BA_append]
      refine congrArg BA ?_
      show _ = 11 :: (fB (Rq.mk 11 0 l 0 false 0 emp false emp 0 fr t lim 0 []) 1 ++ (fB (Rq.mk 11 0 l 0 false 0 emp false emp 0 fr t lim 0 []) 7 ++ []))
      simp only [fB, List.append_assoc, List.append_nil, List.cons_append, List.nil_append]
    rw [← e]
    exact rp_11 l fr t lim (BA (packN l)) (BA (txB fr)) (BA (txB t)) (BA (numN lim.toNat)) (by rw [BA_size]; omega) (by rw [BA_size]; omega) (by rw [BA_size]; omega) (by rw [BA_size]; omega) (rpack_ok l (by omega) hx) (rt20_ok fr (by omega)) (rt20_ok t (by omega)) (rn20_i lim (by omega))
  · obtain rfl : w = 0 := h0
    obtain rfl : l = [] := h1
    obtain rfl : g = 0 := h2
    obtain rfl : m = false := h3
    obtain rfl : r = 0 := h4
    obtain rfl : key = emp := h5
    obtain rfl : vn = false := h6
    obtain rfl : vt = emp := h6'
    obtain rfl : vb = 0 := h6''
    obtain rfl : fr = emp := h7
    obtain rfl : t = emp := h7'
    obtain rfl : lim = 0 := h7''
    obtain rfl : n = 0 := h8
    obtain rfl : c = [] := h9
    have e : kB 12 = BA (pkB (Rq.mk 12 0 [] 0 false 0 emp false emp 0 emp emp 0 0 [])) := by
      rw [show kB 12 = BA [12] from kB_eq 12 (by decide)]
      refine congrArg BA ?_
      show _ = 12 :: []
      rfl
    rw [← e]
    exact rp_12    
  · obtain rfl : w = 0 := h0
    obtain rfl : l = [] := h1
    obtain rfl : g = 0 := h2
    obtain rfl : m = false := h3
    obtain rfl : r = 0 := h4
    obtain rfl : key = emp := h5
    obtain rfl : vn = false := h6
    obtain rfl : vt = emp := h6'
    obtain rfl : vb = 0 := h6''
    obtain rfl : fr = emp := h7
    obtain rfl : t = emp := h7'
    obtain rfl : lim = 0 := h7''
    obtain rfl : c = [] := h9
    have b8 : 1 ≤ n ∧ n ≤ 4 := of_decide_eq_true (hnm 8 (by decide))
    have f8 := hfb 8 (by decide)
    replace f8 : (numN n.toNat).length ≤ 700 := f8
    have e : kB 13 ++ BA (numN n.toNat) = BA (pkB (Rq.mk 13 0 [] 0 false 0 emp false emp 0 emp emp 0 n [])) := by
      rw [show kB 13 = BA [13] from kB_eq 13 (by decide), BA_append]
      refine congrArg BA ?_
      show _ = 13 :: (fB (Rq.mk 13 0 [] 0 false 0 emp false emp 0 emp emp 0 n []) 8 ++ [])
      simp only [fB, List.append_assoc, List.append_nil, List.cons_append, List.nil_append]
    rw [← e]
    exact rp_13 n (BA (numN n.toNat)) (by rw [BA_size]; omega) (rn20_i n (by omega))
  · obtain rfl : w = 0 := h0
    obtain rfl : l = [] := h1
    obtain rfl : g = 0 := h2
    obtain rfl : m = false := h3
    obtain rfl : r = 0 := h4
    obtain rfl : key = emp := h5
    obtain rfl : vn = false := h6
    obtain rfl : vt = emp := h6'
    obtain rfl : vb = 0 := h6''
    obtain rfl : fr = emp := h7
    obtain rfl : t = emp := h7'
    obtain rfl : lim = 0 := h7''
    obtain rfl : n = 0 := h8
    obtain rfl : c = [] := h9
    have e : kB 14 = BA (pkB (Rq.mk 14 0 [] 0 false 0 emp false emp 0 emp emp 0 0 [])) := by
      rw [show kB 14 = BA [14] from kB_eq 14 (by decide)]
      refine congrArg BA ?_
      show _ = 14 :: []
      rfl
    rw [← e]
    exact rp_14    
  · obtain rfl : w = 0 := h0
    obtain rfl : l = [] := h1
    obtain rfl : g = 0 := h2
    obtain rfl : m = false := h3
    obtain rfl : r = 0 := h4
    obtain rfl : key = emp := h5
    obtain rfl : vn = false := h6
    obtain rfl : vt = emp := h6'
    obtain rfl : vb = 0 := h6''
    obtain rfl : fr = emp := h7
    obtain rfl : t = emp := h7'
    obtain rfl : lim = 0 := h7''
    obtain rfl : n = 0 := h8
    obtain rfl : c = [] := h9
    have e : kB 15 = BA (pkB (Rq.mk 15 0 [] 0 false 0 emp false emp 0 emp emp 0 0 [])) := by
      rw [show kB 15 = BA [15] from kB_eq 15 (by decide)]
      refine congrArg BA ?_
      show _ = 15 :: []
      rfl
    rw [← e]
    exact rp_15    
  · obtain rfl : w = 0 := h0
    obtain rfl : l = [] := h1
    obtain rfl : g = 0 := h2
    obtain rfl : m = false := h3
    obtain rfl : vn = false := h6
    obtain rfl : vt = emp := h6'
    obtain rfl : vb = 0 := h6''
    obtain rfl : fr = emp := h7
    obtain rfl : t = emp := h7'
    obtain rfl : lim = 0 := h7''
    obtain rfl : n = 0 := h8
    have b4 : 0 ≤ r ∧ r ≤ 7 := of_decide_eq_true (hnm 4 (by decide))
    have f4 := hfb 4 (by decide)
    have b5 : 1 ≤ key.size ∧ key.size ≤ 32 := of_decide_eq_true (hnm 5 (by decide))
    have f5 := hfb 5 (by decide)
    replace f4 : (numN r.toNat).length ≤ 700 := f4
    replace f5 : (txB key).length ≤ 700 := f5
    obtain ⟨hcl, hop⟩ := rightP_cd (c := c) (hnm 9 (by decide))
    have e : kB 16 ++ BA (numN r.toNat) ++ BA (txB key) ++ BA (cdsB c c.length) = BA (pkB (Rq.mk 16 0 [] 0 false r key false emp 0 emp emp 0 0 c)) := by
      rw [show kB 16 = BA [16] from kB_eq 16 (by decide), BA_append, BA_append, BA_append]
      refine congrArg BA ?_
      show _ = 16 :: (fB (Rq.mk 16 0 [] 0 false r key false emp 0 emp emp 0 0 c) 4 ++ (fB (Rq.mk 16 0 [] 0 false r key false emp 0 emp emp 0 0 c) 5 ++ (fB (Rq.mk 16 0 [] 0 false r key false emp 0 emp emp 0 0 c) 9 ++ [])))
      rw [show cdsB c c.length = fB (Rq.mk 16 0 [] 0 false r key false emp 0 emp emp 0 0 c) 9 by unfold cdsB; rw [List.take_length]; rfl]
      simp only [fB, List.append_assoc, List.append_nil, List.cons_append, List.nil_append]
    rw [← e]
    exact rp_16 r key c (BA (numN r.toNat)) (BA (txB key)) (by rw [BA_size]; omega) (by rw [BA_size]; omega) hcl.2 hop hcb (rn20_i r (by omega)) (rt20_ok key (by omega))
  · obtain rfl : w = 0 := h0
    obtain rfl : g = 0 := h2
    obtain rfl : m = false := h3
    obtain rfl : r = 0 := h4
    obtain rfl : key = emp := h5
    obtain rfl : vn = false := h6
    obtain rfl : vt = emp := h6'
    obtain rfl : vb = 0 := h6''
    obtain rfl : n = 0 := h8
    obtain rfl : c = [] := h9
    have b1 := rightB_len (l := l) (hnm 1 (by decide))
    have f1 := hfb 1 (by decide)
    have b7 : rngB fr t lim = true ∧ (fr.size ≤ 32 ∧ t.size ≤ 32) := by
      have h : (rngB fr t lim && (decide (fr.size ≤ 32) && decide (t.size ≤ 32))) = true := hnm 7 (by decide)
      simp only [Bool.and_eq_true, decide_eq_true_eq] at h
      exact h
    have b7r : 1 ≤ lim ∧ lim ≤ 64 ∧ _ := of_decide_eq_true b7.1
    have f7 := hfb 7 (by decide)
    replace f1 : (packN l).length ≤ 700 := f1
    replace f7 : (txB fr ++ (txB t ++ (numN lim.toNat))).length ≤ 700 := f7
    rw [List.length_append, List.length_append] at f7
    have e : kB 17 ++ BA (packN l) ++ BA (txB fr) ++ BA (txB t) ++ BA (numN lim.toNat) = BA (pkB (Rq.mk 17 0 l 0 false 0 emp false emp 0 fr t lim 0 [])) := by
      rw [show kB 17 = BA [17] from kB_eq 17 (by decide), BA_append, BA_append, BA_append, BA_append]
      refine congrArg BA ?_
      show _ = 17 :: (fB (Rq.mk 17 0 l 0 false 0 emp false emp 0 fr t lim 0 []) 1 ++ (fB (Rq.mk 17 0 l 0 false 0 emp false emp 0 fr t lim 0 []) 7 ++ []))
      simp only [fB, List.append_assoc, List.append_nil, List.cons_append, List.nil_append]
    rw [← e]
    exact rp_17 l fr t lim (BA (packN l)) (BA (txB fr)) (BA (txB t)) (BA (numN lim.toNat)) (by rw [BA_size]; omega) (by rw [BA_size]; omega) (by rw [BA_size]; omega) (by rw [BA_size]; omega) (rpack_ok l (by omega) hx) (rt20_ok fr (by omega)) (rt20_ok t (by omega)) (rn20_i lim (by omega))
end Go.Proofs.Ytgchhmfobkcnfaa.A
