/- wire: an item of a letter is put. No condition. -/
import Derived.Test.YthebddjpnkimjaaWc
namespace Go.Proofs.Ythebddjpnkimjaa.A
open Go
set_option linter.unusedVariables false
set_option maxRecDepth 100000
set_option pp.maxSteps 1500

def keyN (n : Nat) : List Nat := (keyL (placeB n)).map UInt8.toNat
def oneP (c : Nat) : It → Option (List Nat)
  | .mk n s l k =>
    if k.length = 0 then
      if c = 98 then (if emB n s l true false false = true ∧ n ≤ 255 then some [n] else none)
      else if c = 110 then (if emB n s l true false false = true then some (numN n) else none)
      else if c = 116 then (if emB n s l false true false = true ∧ s.size ≤ 200 then some (numN s.size ++ byL s) else none)
      else if c = 102 then (if emB n s l true false false = true ∧ bitsB n = n then some (keyN n) else none)
      else (if emB n s l false false true = true ∧ rightB l = true then some (packN l) else none)
    else none
theorem oneP_mk (c n : Nat) (s : ByteArray) (l : List Nat) (k : List It) : oneP c (.mk n s l k) = if k.length = 0 then (if c = 98 then (if emB n s l true false false = true ∧ n ≤ 255 then some [n] else none) else if c = 110 then (if emB n s l true false false = true then some (numN n) else none) else if c = 116 then (if emB n s l false true false = true ∧ s.size ≤ 200 then some (numN s.size ++ byL s) else none) else if c = 102 then (if emB n s l true false false = true ∧ bitsB n = n then some (keyN n) else none) else (if emB n s l false false true = true ∧ rightB l = true then some (packN l) else none)) else none := rfl
def OneR (o : Option (List Nat)) (R : List Nat) : AEnd → Heap → Prop := fun E G =>
  match o with
  | some b => E = .ret (.tup []) ∧ (G = PH 3 (R ++ b) ∨ G = PH 4 (R ++ b) ∨ G = PH 5 (R ++ b) ∨ G = PH 6 (R ++ b))
  | none => E = .pan (fltV 1) ∧ G = [.dead, .dead]
theorem belowH_PH5 (R : List Nat) : belowH 6 (PH 5 R) = true := by
  simp only [PH, belowH, belowO, belowL_u8, List.replicate, List.cons_append, List.nil_append]
  rfl
theorem belowH_PH6 (R : List Nat) : belowH 7 (PH 6 R) = true := by
  simp only [PH, belowH, belowO, belowL_u8, List.replicate, List.cons_append, List.nil_append]
  rfl
theorem one_kids (c n : Nat) (s : ByteArray) (l : List Nat) (k : List It) (R : List Nat) (hk : k.length ≠ 0) : ACalls Try.prog 23 [.ptr 0 0, u8n c, itA (.mk n s l k)] (PH 1 R) (OneR (oneP c (.mk n s l k)) R) := by
  have ho : oneP c (.mk n s l k) = none := by rw [oneP_mk, if_neg hk]
  rw [ho]
  refine acalls_of_awp hT mixed Try.func23 rfl (by kernel_rfl) (by kernel_rfl) (Nat.le_of_ble_eq_true rfl) ?_
  refine fork (fun g => ?_) (fun g => ?_)
  · exfalso
    have : (k.length : Int) = 0 := beq_iff_eq.1 g
    omega
  refine callBad (check_no 1) rfl ?_
  exact ⟨rfl, [.dead, .dead], ⟨.inr rfl, .inr rfl, True.intro⟩, Nat.le_refl 2, rfl, rfl, rfl⟩
theorem one_b (n : Nat) (s : ByteArray) (l : List Nat) (k : List It) (R : List Nat) (hk : k.length = 0) (hR : R.length ≤ 1000000) : ACalls Try.prog 23 [.ptr 0 0, u8n 98, itA (.mk n s l k)] (PH 1 R) (OneR (oneP 98 (.mk n s l k)) R) := by
  have he := empty_ok n s l k true false false
  have ho : oneP 98 (.mk n s l k) = if emB n s l true false false = true ∧ n ≤ 255 then some [n] else none := by rw [oneP_mk, if_pos hk]; rfl
  rw [ho]
  generalize emB n s l true false false = q at *
  cases q with
  | false =>
    rw [if_neg (fun h => by cases h.1)]
    refine acalls_of_awp hT mixed Try.func23 rfl (by kernel_rfl) (by kernel_rfl) (Nat.le_of_ble_eq_true rfl) ?_
    refine fork (fun g => ?_) (fun g => ?_)
    rotate_left
    · exfalso
      have : (k.length : Int) ≠ 0 := beq_eq_false_iff_ne.1 g
      omega
    refine callP (check_yes 1) rfl rfl ?_
    refine callP he rfl rfl ?_
    refine callBad (check_no 1) rfl ?_
    exact ⟨rfl, [.dead, .dead], ⟨.inr rfl, .inr rfl, True.intro⟩, Nat.le_refl 2, rfl, rfl, rfl⟩
  | true =>
    by_cases hn : n ≤ 255
    · rw [if_pos ⟨rfl, hn⟩]
      have hw : wrp .u8 (n : Int) = ((n : Nat) : Int) := by rw [byteW]; omega
      refine acalls_of_awp hT mixed Try.func23 rfl (by kernel_rfl) (by kernel_rfl) (Nat.le_of_ble_eq_true rfl) ?_
      refine fork (fun g => ?_) (fun g => ?_)
      rotate_left
      · exfalso
        have : (k.length : Int) ≠ 0 := beq_eq_false_iff_ne.1 g
        omega
      refine callP (check_yes 1) rfl rfl ?_
      refine callP he rfl rfl ?_
      refine forkD (fun g => ?_) (fun g => absurd (show (n : Int) ≤ 255 by omega) g)
      refine callP (check_yes 1) rfl rfl ?_
      refine ⟨[0, 0, 0, 0, 0, 0, 0, 0, 0, 1, 1, 1, 2], [[], [], [1], [1, 2], [1, 2, 3], [], [5], [5, 6], [5, 6, 7], [1, 2, 3, 4, 5, 6, 7, 8], [0, 1, 2, 3, 4, 5, 6, 7, 8, 9], [0, 1, 2, 3, 4, 5, 6, 7, 8, 9, 10], [0, 1, 2, 3, 4, 5, 6, 7, 8, 9, 10, 11]], [0, 0, 0, 0, 0, 0, 0, 0, 0, 1, 1, 1, 1], [9, 12], [[0], [0], [26], [27], [28], [5], [30], [31], [32], [29, 33], [25], [35], [36, 34]], Ob.intro (by kernel_rfl) ?_⟩
      repeat refine same ?_
      refine Ob.intro rfl ?_
      refine optK_intro (rdN_all (cs := R.map u8n) rfl (by rw [List.length_map, Nat.mul_one])) ?_
      refine Ob.intro (show (R.length + 1) * 1 ≤ 140737488355328 ∧ R.length + 1 ≤ 9223372036854775807 by omega) ?_
      repeat refine same ?_
      have e1 : AObj.row [.slc 4 0 (R.length + 1) 1] = .row [.slc 4 0 (R ++ [n]).length 1] := by rw [List.length_append]; rfl
      have e2 : AObj.row (R.map u8n ++ [.sc (.int .u8 (wrp .u8 (n : Int)))]) = .row ((R ++ [n]).map u8n) := by rw [hw, List.map_append]; rfl
      exact ⟨rfl, PH 4 (R ++ [n]), .tup [], ⟨⟨_, rfl, rfl⟩, ⟨.inl e1.symm, .inl rfl, .inr rfl, .inr rfl, .inl e2.symm, True.intro⟩, (show 2 ≤ 5 by decide), belowH_PH4 _⟩, rfl, .inr (.inl rfl)⟩
    · rw [if_neg (fun h => hn h.2)]
      refine acalls_of_awp hT mixed Try.func23 rfl (by kernel_rfl) (by kernel_rfl) (Nat.le_of_ble_eq_true rfl) ?_
      refine fork (fun g => ?_) (fun g => ?_)
      rotate_left
      · exfalso
        have : (k.length : Int) ≠ 0 := beq_eq_false_iff_ne.1 g
        omega
      refine callP (check_yes 1) rfl rfl ?_
      refine callP he rfl rfl ?_
      refine forkD (fun g => absurd (show n ≤ 255 by have : (n : Int) ≤ 255 := g; omega) hn) (fun g => ?_)
      refine callBad (check_no 1) rfl ?_
      exact ⟨rfl, [.dead, .dead], ⟨.inr rfl, .inr rfl, True.intro⟩, Nat.le_refl 2, rfl, rfl, rfl⟩
theorem renH_PH3 (r : Nat → Nat) (R : List Nat) : renH r (PH 3 R) = [.row [.slc (r 3) 0 R.length 1], .dead, .dead, .row (R.map u8n)] := by
  simp only [PH, renH, renO_u8, List.replicate, List.cons_append, List.nil_append]
  rfl
theorem renH_PH4 (r : Nat → Nat) (R : List Nat) : renH r (PH 4 R) = [.row [.slc (r 4) 0 R.length 1], .dead, .dead, .dead, .row (R.map u8n)] := by
  simp only [PH, renH, renO_u8, List.replicate, List.cons_append, List.nil_append]
  rfl
theorem renH_PH5 (r : Nat → Nat) (R : List Nat) : renH r (PH 5 R) = [.row [.slc (r 5) 0 R.length 1], .dead, .dead, .dead, .dead, .row (R.map u8n)] := by
  simp only [PH, renH, renO_u8, List.replicate, List.cons_append, List.nil_append]
  rfl
theorem renH_PH6 (r : Nat → Nat) (R : List Nat) : renH r (PH 6 R) = [.row [.slc (r 6) 0 R.length 1], .dead, .dead, .dead, .dead, .dead, .row (R.map u8n)] := by
  simp only [PH, renH, renO_u8, List.replicate, List.cons_append, List.nil_append]
  rfl
theorem one_n (n : Nat) (s : ByteArray) (l : List Nat) (k : List It) (R : List Nat) (hk : k.length = 0) (hR : R.length ≤ 1000000) (hn : n < 18446744073709551616) : ACalls Try.prog 23 [.ptr 0 0, u8n 110, itA (.mk n s l k)] (PH 1 R) (OneR (oneP 110 (.mk n s l k)) R) := by
  have he := empty_ok n s l k true false false
  have ho : oneP 110 (.mk n s l k) = if emB n s l true false false = true then some (numN n) else none := by rw [oneP_mk, if_pos hk]; rfl
  rw [ho]
  generalize emB n s l true false false = q at *
  cases q with
  | false =>
    rw [if_neg (fun h => by cases h)]
    refine acalls_of_awp hT mixed Try.func23 rfl (by kernel_rfl) (by kernel_rfl) (Nat.le_of_ble_eq_true rfl) ?_
    refine fork (fun g => ?_) (fun g => ?_)
    rotate_left
    · exfalso
      have : (k.length : Int) ≠ 0 := beq_eq_false_iff_ne.1 g
      omega
    refine callP (check_yes 1) rfl rfl ?_
    refine callP he rfl rfl ?_
    refine callBad (check_no 1) rfl ?_
    exact ⟨rfl, [.dead, .dead], ⟨.inr rfl, .inr rfl, True.intro⟩, Nat.le_refl 2, rfl, rfl, rfl⟩
  | true =>
    rw [if_pos rfl]
    refine acalls_of_awp hT mixed Try.func23 rfl (by kernel_rfl) (by kernel_rfl) (Nat.le_of_ble_eq_true rfl) ?_
    refine fork (fun g => ?_) (fun g => ?_)
    rotate_left
    · exfalso
      have : (k.length : Int) ≠ 0 := beq_eq_false_iff_ne.1 g
      omega
    refine callP (check_yes 1) rfl rfl ?_
    refine callP he rfl rfl ?_
    refine callP (check_yes 1) rfl rfl ?_
    refine callS (number_ok n R hn hR) [0, 1] ⟨.inl rfl, .inl (by rw [renO_u8]; rfl), True.intro⟩ rfl ?_
    rintro E G ⟨rfl, rfl | rfl⟩ _
    · refine ⟨_, [.row [.slc 4 0 (R ++ numN n).length 1], .dead, .row (itC (.mk n s l k)), .dead, .row ((R ++ numN n).map u8n)], rfl, by rw [renH_PH3]; rfl, ?_⟩
      exact ⟨rfl, PH 4 (R ++ numN n), .tup [], ⟨⟨_, rfl, rfl⟩, ⟨.inl rfl, .inl rfl, .inr rfl, .inl rfl, .inl rfl, True.intro⟩, (show 2 ≤ 5 by decide), belowH_PH4 _⟩, rfl, .inr (.inl rfl)⟩
    · refine ⟨_, [.row [.slc 5 0 (R ++ numN n).length 1], .dead, .row (itC (.mk n s l k)), .dead, .dead, .row ((R ++ numN n).map u8n)], rfl, by rw [renH_PH4]; rfl, ?_⟩
      exact ⟨rfl, PH 5 (R ++ numN n), .tup [], ⟨⟨_, rfl, rfl⟩, ⟨.inl rfl, .inl rfl, .inr rfl, .inl rfl, .inl rfl, .inl rfl, True.intro⟩, (show 2 ≤ 6 by decide), belowH_PH5 _⟩, rfl, .inr (.inr (.inl rfl))⟩
theorem allC_bytes (s : ByteArray) : allC (bytesA s) = true := by rw [bytesA_u8]; exact allC_u8 _
theorem one_t (n : Nat) (s : ByteArray) (l : List Nat) (k : List It) (R : List Nat) (hk : k.length = 0) (hR : R.length ≤ 1000000) : ACalls Try.prog 23 [.ptr 0 0, u8n 116, itA (.mk n s l k)] (PH 1 R) (OneR (oneP 116 (.mk n s l k)) R) := by
  have he := empty_ok n s l k false true false
  have ho : oneP 116 (.mk n s l k) = if emB n s l false true false = true ∧ s.size ≤ 200 then some (numN s.size ++ byL s) else none := by rw [oneP_mk, if_pos hk]; rfl
  rw [ho]
  generalize emB n s l false true false = q at *
  cases q with
  | false =>
    rw [if_neg (fun h => by cases h.1)]
    refine acalls_of_awp hT mixed Try.func23 rfl (by kernel_rfl) (by kernel_rfl) (Nat.le_of_ble_eq_true rfl) ?_
    refine fork (fun g => ?_) (fun g => ?_)
    rotate_left
    · exfalso
      have : (k.length : Int) ≠ 0 := beq_eq_false_iff_ne.1 g
      omega
    refine callP (check_yes 1) rfl rfl ?_
    refine callP he rfl rfl ?_
    refine callBad (check_no 1) rfl ?_
    exact ⟨rfl, [.dead, .dead], ⟨.inr rfl, .inr rfl, True.intro⟩, Nat.le_refl 2, rfl, rfl, rfl⟩
  | true =>
    by_cases h2 : s.size ≤ 200
    · rw [if_pos ⟨rfl, h2⟩]
      have hw : wrp .u64 (s.size : Int) = ((s.size : Nat) : Int) := by rw [wrpE, wu64]; omega
      have hc := number_ok s.size R (by omega) hR
      have hlen := numN_len10 (show s.size < 18446744073709551616 by omega)
      have harg : u64n s.size = u64 (wrp .u64 (s.size : Int)) := by rw [hw]; rfl
      rw [harg] at hc
      have hl2 : (R ++ numN s.size).length ≤ 1000010 := by rw [List.length_append]; omega
      have e2 : AObj.row ((R ++ numN s.size).map u8n ++ bytesA s) = .row ((R ++ (numN s.size ++ byL s)).map u8n) := by rw [bytesA_u8, ← List.map_append, List.append_assoc]
      have e3 : ∀ i, AObj.row [.slc i 0 ((R ++ numN s.size).length + s.size) 1] = .row [.slc i 0 (R ++ (numN s.size ++ byL s)).length 1] := fun i => by rw [← List.append_assoc, List.length_append (bs := byL s), byL_len]
      refine acalls_of_awp hT mixed Try.func23 rfl (by kernel_rfl) (by kernel_rfl) (Nat.le_of_ble_eq_true rfl) ?_
      refine fork (fun g => ?_) (fun g => ?_)
      rotate_left
      · exfalso
        have : (k.length : Int) ≠ 0 := beq_eq_false_iff_ne.1 g
        omega
      refine callP (check_yes 1) rfl rfl ?_
      refine callP he rfl rfl ?_
      refine forkD (fun g => ?_) (fun g => absurd (show (s.size : Int) ≤ 200 by omega) g)
      refine callP (check_yes 1) rfl rfl ?_
      refine callS hc [0, 1] ⟨.inl rfl, .inl (by rw [renO_u8]; rfl), True.intro⟩ rfl ?_
      rintro E G ⟨rfl, rfl | rfl⟩ _
      · refine ⟨_, [.row [.slc 4 0 (R ++ numN s.size).length 1], .dead, .row (itC (.mk n s l k)), .dead, .row ((R ++ numN s.size).map u8n)], rfl, by rw [renH_PH3]; rfl, ?_⟩
        refine ⟨[0, 0, 0, 0, 0, 0, 0, 1, 1, 1, 2], [[], [], [1], [1, 2], [1, 2, 3], [], [5], [1, 2, 3, 4, 5, 6], [0, 1, 2, 3, 4, 5, 6, 7], [0, 1, 2, 3, 4, 5, 6, 7, 8], [0, 1, 2, 3, 4, 5, 6, 7, 8, 9]], [0, 0, 0, 0, 0, 0, 0, 0, 0, 0, 0], [7, 10], [[0], [0], [64], [65], [66], [5], [68], [67, 69], [63], [71], [72, 70]], Ob.intro (by kernel_rfl) ?_⟩
        repeat refine same ?_
        refine Ob.intro (allC_bytes s) ?_
        refine optK_intro (rdN_all (cs := (R ++ numN s.size).map u8n) rfl (by rw [List.length_map, Nat.mul_one])) ?_
        refine Ob.intro (show ((R ++ numN s.size).length + s.size) * 1 ≤ 140737488355328 ∧ (R ++ numN s.size).length + s.size ≤ 9223372036854775807 by omega) ?_
        repeat refine same ?_
        exact ⟨rfl, PH 5 (R ++ (numN s.size ++ byL s)), .tup [], ⟨⟨_, rfl, rfl⟩, ⟨.inl (e3 5).symm, .inl rfl, .inr rfl, .inl rfl, .inl rfl, .inl e2.symm, True.intro⟩, (show 2 ≤ 6 by decide), belowH_PH5 _⟩, rfl, .inr (.inr (.inl rfl))⟩
      · refine ⟨_, [.row [.slc 5 0 (R ++ numN s.size).length 1], .dead, .row (itC (.mk n s l k)), .dead, .dead, .row ((R ++ numN s.size).map u8n)], rfl, by rw [renH_PH4]; rfl, ?_⟩
        refine ⟨[0, 0, 0, 0, 0, 0, 0, 1, 1, 1, 2], [[], [], [1], [1, 2], [1, 2, 3], [], [5], [1, 2, 3, 4, 5, 6], [0, 1, 2, 3, 4, 5, 6, 7], [0, 1, 2, 3, 4, 5, 6, 7, 8], [0, 1, 2, 3, 4, 5, 6, 7, 8, 9]], [0, 0, 0, 0, 0, 0, 0, 0, 0, 0, 0], [7, 10], [[0], [0], [64], [65], [66], [5], [68], [67, 69], [63], [71], [72, 70]], Ob.intro (by kernel_rfl) ?_⟩
        repeat refine same ?_
        refine Ob.intro (allC_bytes s) ?_
        refine optK_intro (rdN_all (cs := (R ++ numN s.size).map u8n) rfl (by rw [List.length_map, Nat.mul_one])) ?_
        refine Ob.intro (show ((R ++ numN s.size).length + s.size) * 1 ≤ 140737488355328 ∧ (R ++ numN s.size).length + s.size ≤ 9223372036854775807 by omega) ?_
        repeat refine same ?_
        exact ⟨rfl, PH 6 (R ++ (numN s.size ++ byL s)), .tup [], ⟨⟨_, rfl, rfl⟩, ⟨.inl (e3 6).symm, .inl rfl, .inr rfl, .inl rfl, .inl rfl, .inl rfl, .inl e2.symm, True.intro⟩, (show 2 ≤ 7 by decide), belowH_PH6 _⟩, rfl, .inr (.inr (.inr rfl))⟩
    · rw [if_neg (fun h => h2 h.2)]
      refine acalls_of_awp hT mixed Try.func23 rfl (by kernel_rfl) (by kernel_rfl) (Nat.le_of_ble_eq_true rfl) ?_
      refine fork (fun g => ?_) (fun g => ?_)
      rotate_left
      · exfalso
        have : (k.length : Int) ≠ 0 := beq_eq_false_iff_ne.1 g
        omega
      refine callP (check_yes 1) rfl rfl ?_
      refine callP he rfl rfl ?_
      refine forkD (fun g => absurd (show s.size ≤ 200 by have : (s.size : Int) ≤ 200 := g; omega) h2) (fun g => ?_)
      refine callBad (check_no 1) rfl ?_
      exact ⟨rfl, [.dead, .dead], ⟨.inr rfl, .inr rfl, True.intro⟩, Nat.le_refl 2, rfl, rfl, rfl⟩
theorem one_f (n : Nat) (s : ByteArray) (l : List Nat) (k : List It) (R : List Nat) (hk : k.length = 0) (hR : R.length ≤ 1000000) (hn : n < 18446744073709551616) : ACalls Try.prog 23 [.ptr 0 0, u8n 102, itA (.mk n s l k)] (PH 1 R) (OneR (oneP 102 (.mk n s l k)) R) := by
  have he := empty_ok n s l k true false false
  have ho : oneP 102 (.mk n s l k) = if emB n s l true false false = true ∧ bitsB n = n then some (keyN n) else none := by rw [oneP_mk, if_pos hk]; rfl
  rw [ho]
  have hF := from_ok n
  have hB := bits_ok (bitsB n)
  rw [bitsB_bitsB] at hB
  generalize emB n s l true false false = q at *
  cases q with
  | false =>
    rw [if_neg (fun h => by cases h.1)]
    refine acalls_of_awp hT mixed Try.func23 rfl (by kernel_rfl) (by kernel_rfl) (Nat.le_of_ble_eq_true rfl) ?_
    refine fork (fun g => ?_) (fun g => ?_)
    rotate_left
    · exfalso
      have : (k.length : Int) ≠ 0 := beq_eq_false_iff_ne.1 g
      omega
    refine callP (check_yes 1) rfl rfl ?_
    refine callP hF rfl rfl ?_
    refine ⟨[0, 1, 1, 1, 2, 1, 1, 2, 2, 3], [[], [0], [0, 1], [0, 1, 2], [0, 1, 2, 3], [0, 1, 2], [0, 1, 2, 5], [0, 1, 2, 3, 4, 5, 6], [0, 1, 2, 3, 4, 5, 6, 7], [0, 1, 2, 3, 4, 5, 6, 7, 8]], [0, 0, 0, 0, 0, 0, 0, 0, 0, 0], [1, 4, 9], [[5], [78], [79], [6, 80], [81, 80], [5, 80], [83, 80], [82, 84, 80], [80, 85], [86]], Ob.intro (by kernel_rfl) ?_⟩
    repeat refine same ?_
    refine callP he rfl rfl ?_
    repeat refine same ?_
    refine callBad (check_no 1) rfl ?_
    exact ⟨rfl, [.dead, .dead], ⟨.inr rfl, .inr rfl, True.intro⟩, Nat.le_refl 2, rfl, rfl, rfl⟩
  | true =>
    by_cases h2 : bitsB n = n
    · rw [if_pos ⟨rfl, h2⟩]
      have hK := key_ok n hn
      rw [h2] at hB hF
      have hkl : (keyL (placeB n)).length = 8 := rfl
      have hbk : byL ⟨(keyL (placeB n)).toArray⟩ = keyN n := by unfold byL keyN; simp
      have hks : (⟨(keyL (placeB n)).toArray⟩ : ByteArray).size = 8 := rfl
      have hkn : (keyN n).length = 8 := by unfold keyN; rw [List.length_map, hkl]
      generalize (⟨(keyL (placeB n)).toArray⟩ : ByteArray) = ks at *
      have e2 : AObj.row (R.map u8n ++ bytesA ks) = .row ((R ++ keyN n).map u8n) := by rw [bytesA_u8, hbk, ← List.map_append]
      have e3 : AObj.row [.slc 3 0 (R.length + ks.size) 1] = .row [.slc 3 0 (R ++ keyN n).length 1] := by rw [List.length_append, hks, hkn]
      refine acalls_of_awp hT mixed Try.func23 rfl (by kernel_rfl) (by kernel_rfl) (Nat.le_of_ble_eq_true rfl) ?_
      refine fork (fun g => ?_) (fun g => ?_)
      rotate_left
      · exfalso
        have : (k.length : Int) ≠ 0 := beq_eq_false_iff_ne.1 g
        omega
      refine callP (check_yes 1) rfl rfl ?_
      refine callP hF rfl rfl ?_
      refine ⟨[0, 1, 1, 1, 2, 1, 1, 2, 2, 3], [[], [0], [0, 1], [0, 1, 2], [0, 1, 2, 3], [0, 1, 2], [0, 1, 2, 5], [0, 1, 2, 3, 4, 5, 6], [0, 1, 2, 3, 4, 5, 6, 7], [0, 1, 2, 3, 4, 5, 6, 7, 8]], [0, 0, 0, 0, 0, 0, 0, 0, 0, 0], [1, 4, 9], [[5], [78], [79], [6, 80], [81, 80], [5, 80], [83, 80], [82, 84, 80], [80, 85], [86]], Ob.intro (by kernel_rfl) ?_⟩
      repeat refine same ?_
      refine callP he rfl rfl ?_
      repeat refine same ?_
      refine callP hB rfl rfl ?_
      refine fork (fun g => ?_) (fun g => absurd rfl (beq_eq_false_iff_ne.1 g))
      repeat refine same ?_
      refine callP (check_yes 1) rfl rfl ?_
      repeat refine same ?_
      refine ⟨[0, 0, 0, 0, 0, 0, 1, 2, 2, 2, 3], [[], [], [1], [1, 2], [1, 2, 3], [], [5], [1, 2, 3, 4, 5, 6], [0, 1, 2, 3, 4, 5, 6, 7], [0, 1, 2, 3, 4, 5, 6, 7, 8], [0, 1, 2, 3, 4, 5, 6, 7, 8, 9]], [0, 0, 0, 0, 0, 0, 0, 0, 0, 0, 0], [6, 7, 10], [[0], [0], [89], [90], [91], [6], [93], [92, 94], [88], [96], [97, 95]], Ob.intro (by kernel_rfl) ?_⟩
      repeat refine same ?_
      refine callP hK rfl rfl ?_
      repeat refine same ?_
      refine Ob.intro (allC_bytes ks) ?_
      refine optK_intro (rdN_all (cs := R.map u8n) rfl (by rw [List.length_map, Nat.mul_one])) ?_
      refine Ob.intro (show (R.length + ks.size) * 1 ≤ 140737488355328 ∧ R.length + ks.size ≤ 9223372036854775807 by omega) ?_
      repeat refine same ?_
      exact ⟨rfl, PH 3 (R ++ keyN n), .tup [], ⟨⟨_, rfl, rfl⟩, ⟨.inl e3.symm, .inl rfl, .inr rfl, .inl e2.symm, True.intro⟩, (show 2 ≤ 4 by decide), belowH_PH3 _⟩, rfl, .inl rfl⟩
    · rw [if_neg (fun h => h2 h.2)]
      refine acalls_of_awp hT mixed Try.func23 rfl (by kernel_rfl) (by kernel_rfl) (Nat.le_of_ble_eq_true rfl) ?_
      refine fork (fun g => ?_) (fun g => ?_)
      rotate_left
      · exfalso
        have : (k.length : Int) ≠ 0 := beq_eq_false_iff_ne.1 g
        omega
      refine callP (check_yes 1) rfl rfl ?_
      refine callP hF rfl rfl ?_
      refine ⟨[0, 1, 1, 1, 2, 1, 1, 2, 2, 3], [[], [0], [0, 1], [0, 1, 2], [0, 1, 2, 3], [0, 1, 2], [0, 1, 2, 5], [0, 1, 2, 3, 4, 5, 6], [0, 1, 2, 3, 4, 5, 6, 7], [0, 1, 2, 3, 4, 5, 6, 7, 8]], [0, 0, 0, 0, 0, 0, 0, 0, 0, 0], [1, 4, 9], [[5], [78], [79], [6, 80], [81, 80], [5, 80], [83, 80], [82, 84, 80], [80, 85], [86]], Ob.intro (by kernel_rfl) ?_⟩
      repeat refine same ?_
      refine callP he rfl rfl ?_
      repeat refine same ?_
      refine callP hB rfl rfl ?_
      refine fork (fun g => ?_) (fun g => ?_)
      · exfalso
        have : ((bitsB n : Nat) : Int) = (n : Nat) := beq_iff_eq.1 g
        omega
      repeat refine same ?_
      refine callBad (check_no 1) rfl ?_
      exact ⟨rfl, [.dead, .dead], ⟨.inr rfl, .inr rfl, True.intro⟩, Nat.le_refl 2, rfl, rfl, rfl⟩
theorem one_l (n : Nat) (s : ByteArray) (l : List Nat) (k : List It) (R : List Nat) (hk : k.length = 0) (hR : R.length ≤ 1000000) (hl : l.length < 9223372036854775807) : ACalls Try.prog 23 [.ptr 0 0, u8n 108, itA (.mk n s l k)] (PH 1 R) (OneR (oneP 108 (.mk n s l k)) R) := by
  have he := empty_ok n s l k false false true
  have hP := lpack_ok l hl
  have ho : oneP 108 (.mk n s l k) = if emB n s l false false true = true ∧ rightB l = true then some (packN l) else none := by rw [oneP_mk, if_pos hk]; rfl
  rw [ho]
  generalize emB n s l false false true = q at *
  cases hr : rightB l with
  | false =>
    have hp : packP l = (emp, 1) := by unfold packP; rw [hr]; rfl
    rw [hp] at hP
    rw [if_neg (fun h => by cases h.2)]
    cases q <;>
    · refine acalls_of_awp hT mixed Try.func23 rfl (by kernel_rfl) (by kernel_rfl) (Nat.le_of_ble_eq_true rfl) ?_
      refine fork (fun g => ?_) (fun g => ?_)
      rotate_left
      · exfalso
        have : (k.length : Int) ≠ 0 := beq_eq_false_iff_ne.1 g
        omega
      refine callP (check_yes 1) rfl rfl ?_
      refine callP hP rfl rfl ?_
      refine callP he rfl rfl ?_
      refine callBad (check_no 1) rfl ?_
      exact ⟨rfl, [.dead, .dead], ⟨.inr rfl, .inr rfl, True.intro⟩, Nat.le_refl 2, rfl, rfl, rfl⟩
  | true =>
    have hp : packP l = (packB l, 0) := by unfold packP; rw [if_pos hr]
    rw [hp] at hP
    cases q with
    | false =>
      rw [if_neg (fun h => by cases h.1)]
      refine acalls_of_awp hT mixed Try.func23 rfl (by kernel_rfl) (by kernel_rfl) (Nat.le_of_ble_eq_true rfl) ?_
      refine fork (fun g => ?_) (fun g => ?_)
      rotate_left
      · exfalso
        have : (k.length : Int) ≠ 0 := beq_eq_false_iff_ne.1 g
        omega
      refine callP (check_yes 1) rfl rfl ?_
      refine callP hP rfl rfl ?_
      refine callP he rfl rfl ?_
      refine callBad (check_no 1) rfl ?_
      exact ⟨rfl, [.dead, .dead], ⟨.inr rfl, .inr rfl, True.intro⟩, Nat.le_refl 2, rfl, rfl, rfl⟩
    | true =>
      rw [if_pos ⟨rfl, rfl⟩]
      have hbk : byL (packB l) = packN l := by unfold packB; exact byL_BA (packN_lt (by have := rightB_len hr; omega))
      have hks : (packB l).size = (packN l).length := by unfold packB; exact BA_size _
      have hkn : (packN l).length ≤ 100 := by rw [← hks, packB_size]; have := rightB_len hr; omega
      generalize packB l = ks at *
      have e2 : AObj.row (R.map u8n ++ bytesA ks) = .row ((R ++ packN l).map u8n) := by rw [bytesA_u8, hbk, ← List.map_append]
      have e3 : AObj.row [.slc 3 0 (R.length + ks.size) 1] = .row [.slc 3 0 (R ++ packN l).length 1] := by rw [List.length_append, hks]
      refine acalls_of_awp hT mixed Try.func23 rfl (by kernel_rfl) (by kernel_rfl) (Nat.le_of_ble_eq_true rfl) ?_
      refine fork (fun g => ?_) (fun g => ?_)
      rotate_left
      · exfalso
        have : (k.length : Int) ≠ 0 := beq_eq_false_iff_ne.1 g
        omega
      refine callP (check_yes 1) rfl rfl ?_
      refine callP hP rfl rfl ?_
      refine callP he rfl rfl ?_
      refine callP (check_yes 1) rfl rfl ?_
      refine Ob.intro (allC_bytes ks) ?_
      refine optK_intro (rdN_all (cs := R.map u8n) rfl (by rw [List.length_map, Nat.mul_one])) ?_
      refine Ob.intro (show (R.length + ks.size) * 1 ≤ 140737488355328 ∧ R.length + ks.size ≤ 9223372036854775807 by omega) ?_
      exact ⟨rfl, PH 3 (R ++ packN l), .tup [], ⟨⟨_, rfl, rfl⟩, ⟨.inl e3.symm, .inl rfl, .inr rfl, .inl e2.symm, True.intro⟩, (show 2 ≤ 4 by decide), belowH_PH3 _⟩, rfl, .inl rfl⟩
theorem isL_5 {c : Nat} (h : isL c = true) : c = 98 ∨ c = 110 ∨ c = 116 ∨ c = 102 ∨ c = 108 := by
  unfold isL at h
  simp only [Bool.or_eq_true, beq_iff_eq] at h
  omega
theorem one_ok (c n : Nat) (s : ByteArray) (l : List Nat) (k : List It) (R : List Nat) (hc : isL c = true) (hR : R.length ≤ 1000000) (hn : n < 18446744073709551616) (hl : l.length < 9223372036854775807) : ACalls Try.prog 23 [.ptr 0 0, u8n c, itA (.mk n s l k)] (PH 1 R) (OneR (oneP c (.mk n s l k)) R) := by
  by_cases hk : k.length = 0
  · rcases isL_5 hc with rfl | rfl | rfl | rfl | rfl
    · exact one_b n s l k R hk hR
    · exact one_n n s l k R hk hR hn
    · exact one_t n s l k R hk hR
    · exact one_f n s l k R hk hR hn
    · exact one_l n s l k R hk hR hl
  · exact one_kids c n s l k R hk
end Go.Proofs.Ythebddjpnkimjaa.A
