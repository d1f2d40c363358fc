/- record: Undeed; RecordDeeds. No condition. -/
import Derived.Test.YtkbpddejafdmdaaRg
import Derived.Test.YtkbpddejafdmdaaRf
import Derived.Test.YtkbpddejafdmdaaAm19
import Derived.Test.YtkbpddejafdmdaaOs
namespace Go.Proofs.Ytkbpddejafdmdaa.A
open Go
set_option linter.unusedVariables false
set_option linter.unusedSimpArgs false
set_option maxRecDepth 100000
set_option pp.maxSteps 400

def udA (o : Option Dd2) : AV := match o with
  | some d => .tup [d.v.a, i64 0]
  | none => .tup [(DdV.mk 0 0 0 0 false).a, i64 4]
theorem undeedU_ok (s : ByteArray) (hs : s.size ≤ 1000000) : ACalls Try.prog 10 [str s] [] (Ret (udA (undP s))) := by
  have hc := undeed_ok s hs
  cases hu : undP s with
  | none =>
    rw [hu] at hc
    refine acalls_of_awp hT mixed Try.func10 rfl (by kernel_rfl) (by kernel_rfl) (Nat.le_of_ble_eq_true rfl) ?_
    refine callS hc [] True.intro rfl ?_
    rintro E G ⟨rfl, d, rfl⟩ _
    obtain ⟨k, w, t, g, m⟩ := d
    refine ⟨_, _, rfl, rfl, ?_⟩
    cases m <;>
    exact ⟨rfl, [], (udA none), ⟨⟨_, rfl, rfl⟩, True.intro, Nat.zero_le _, rfl⟩, rfl, rfl⟩
  | some d =>
    rw [hu] at hc
    obtain ⟨dk, dw, dt, dg, dm⟩ := d
    cases dk <;> cases dm <;>
    · refine acalls_of_awp hT mixed Try.func10 rfl (by kernel_rfl) (by kernel_rfl) (Nat.le_of_ble_eq_true rfl) ?_
      refine callS hc [] True.intro rfl ?_
      rintro E G ⟨rfl, rfl⟩ _
      refine ⟨_, _, rfl, rfl, ?_⟩
      exact ⟨rfl, [], (udA (some _)), ⟨⟨_, rfl, rfl⟩, True.intro, Nat.zero_le _, rfl⟩, rfl, rfl⟩
theorem wf_dd {l : List AV} (h : Wf (.strct (.cons (.int .i64) (.cons (.int .i64) (.cons (.int .i64) (.cons (.int .u64) (.cons .bool .none)))))) l) : ∃ (k w t : Int) (x : Nat) (m : Bool), l = [i64 k, i64 w, i64 t, u64n x, bo m] ∧ x < 18446744073709551616 := by
  obtain ⟨_, _, rfl, ⟨k, rfl, _⟩, _, _, rfl, ⟨w, rfl, _⟩, _, _, rfl, ⟨t, rfl, _⟩, _, _, rfl, ⟨x, rfl, hx⟩, _, _, rfl, ⟨m, rfl⟩, rfl⟩ := h
  obtain ⟨h0, h1⟩ := wf_u64 hx
  refine ⟨k, w, t, x.toNat, m, ?_, by omega⟩
  show _ = [i64 k, i64 w, i64 t, u64 ((x.toNat : Nat) : Int), bo m]
  rw [Int.toNat_of_nonneg h0]
  rfl
theorem octB_hd (x : Nat) (r : List Nat) : octB (BA (x :: r)) 0 = x % 256 := by
  unfold octB
  rw [BA_list]
  show (UInt8.ofNat x).toNat = _
  exact UInt8.toNat_ofNat'
theorem BA_emp (b : List Nat) : BA b ++ emp = BA b := by
  have := BA_append b []
  rw [List.append_nil] at this
  exact this
theorem beg_inv0 {sh : List Nat} {l : List It} {b : List Nat} (hw : ∀ x ∈ l, WI x) (h : printS sh l = some b) : begP sh (BA b) = .ok l b.length := by
  have := beg_inv hw h emp
  rw [BA_emp] at this
  exact this
def Dd2.can (d : Dd2) : Prop := d.mk1 = true → d.t = 0 ∧ d.g = 0 ∧ d.m = false
theorem und_B (d : Dd2) (h : d.ok) (hc : d.can) : undP (BA d.B) = some d := by
  obtain ⟨k, w, t, g, m⟩ := d
  obtain ⟨hw, hg⟩ := h
  dsimp only at hw hg
  cases k with
  | true =>
    obtain ⟨rfl, rfl, rfl⟩ := hc rfl
    have hb := beg_inv0 (l := [itN 4, itN w]) (fun x hx => by
      simp only [List.mem_cons, List.not_mem_nil, or_false] at hx
      rcases hx with rfl | rfl
      · exact wi_itN (by decide)
      · exact wi_itN (by omega)) (print_bn w (by decide))
    show undP (BA (4 :: numN w)) = _
    unfold undP
    rw [if_neg (by rw [BA_size]; simp), if_pos (by rw [octB_hd])]
    unfold hdP
    rw [hb]
    show (match (if 4 = 4 ∧ w ≤ 1073741824 then some (w, (4 :: numN w).length) else none) with | some (w, m) => _ | none => none) = _
    rw [if_pos ⟨rfl, by omega⟩]
    show (if (4 :: numN w).length = (BA (4 :: numN w)).size ∧ w ≤ 7 then some (Dd2.mk true w 0 0 false) else none) = _
    rw [if_pos ⟨(BA_size _).symm, hw⟩]
  | false =>
    obtain ⟨ht, hg1, hg2⟩ := hg rfl
    have hm : bN m ≤ 1 := by cases m <;> decide
    have hb := beg_inv0 (l := [itN 3, itN w, itN t, itN g, itN (bN m)]) (fun x hx => by
      simp only [List.mem_cons, List.not_mem_nil, or_false] at hx
      rcases hx with rfl | rfl | rfl | rfl | rfl
      · exact wi_itN (by decide)
      · exact wi_itN (by omega)
      · exact wi_itN (by omega)
      · exact wi_itN (by omega)
      · exact wi_itN (by omega)) (print_g (a := 3) (by decide) (by omega))
    show undP (BA (3 :: (numN w ++ (numN t ++ (numN g ++ [bN m]))))) = _
    unfold undP
    rw [if_neg (by rw [BA_size]; simp), if_neg (by rw [octB_hd]; decide), hb]
    show (if 3 = 3 ∧ w ≤ 7 ∧ t ≤ 7 ∧ 1 ≤ g ∧ g ≤ 16 ∧ bN m ≤ 1 ∧ (3 :: (numN w ++ (numN t ++ (numN g ++ [bN m])))).length = (BA (3 :: (numN w ++ (numN t ++ (numN g ++ [bN m]))))).size then some (Dd2.mk false w t g (decide (bN m = 1))) else none) = _
    rw [if_pos ⟨rfl, hw, ht, hg1, hg2, hm, (BA_size _).symm⟩]
    cases m <;> rfl
theorem B_len (d : Dd2) (h : d.ok) : d.B.length ≤ 100 := by
  obtain ⟨k, w, t, g, m⟩ := d
  obtain ⟨hw, hg⟩ := h
  dsimp only at hw hg
  have l1 := numN_len10 (show w < 18446744073709551616 by omega)
  cases k with
  | true => show (4 :: numN w).length ≤ _; simp only [List.length_cons]; omega
  | false =>
    obtain ⟨ht, hg1, hg2⟩ := hg rfl
    have l2 := numN_len10 (show t < 18446744073709551616 by omega)
    have l3 := numN_len10 (show g < 18446744073709551616 by omega)
    show (3 :: (numN w ++ (numN t ++ (numN g ++ [bN m])))).length ≤ _
    simp only [List.length_cons, List.length_append, List.length_nil]
    omega
theorem done_ex (d : DdV) (h : doneB d = true) : ∃ e : Dd2, e.ok ∧ e.can ∧ e.v = d := by
  obtain ⟨k, w, t, g, m⟩ := d
  have hh := of_decide_eq_true h
  dsimp only at hh
  obtain ⟨⟨h1, h2⟩, ⟨rfl, rfl, rfl, h3⟩ | ⟨rfl, h3, h4, h5, h6⟩⟩ := hh
  · have : m = false := by cases m; rfl; cases h3
    subst this
    exact ⟨⟨true, w.toNat, 0, 0, false⟩, ⟨(by dsimp only; omega), fun h => by cases h⟩, (fun _ => ⟨rfl, rfl, rfl⟩), by show DdV.mk 1 ((w.toNat : Nat) : Int) 0 0 false = _; rw [Int.toNat_of_nonneg h1]⟩
  · exact ⟨⟨false, w.toNat, t.toNat, g, m⟩, ⟨(by dsimp only; omega), fun _ => (by dsimp only; omega)⟩, (fun h => by cases h), by show DdV.mk 2 ((w.toNat : Nat) : Int) ((t.toNat : Nat) : Int) g m = _; rw [Int.toNat_of_nonneg h1, Int.toNat_of_nonneg h3]⟩
theorem rdone_dec (d : DdV) (q : Bool) (h : doneB d = q) : ACalls Try.prog 9 [d.a] [] (Ret (bo q)) := by rw [← h]; exact rDone_ok d
theorem deeds_no (d : DdV) (z : ByteArray) (hz : strEq z ⟨#[]⟩ = true) (h1 : ACalls Try.prog 8 [d.a] [] (Ret (.tup [str z, i64 1]))) (h : doneB d = false) : ACalls Try.prog 3 [d.a] [] (Ret (bo true)) := by
  have h2 := rdone_dec d false h
  obtain ⟨k, w, t, g, m⟩ := d
  cases m <;>
  · refine acalls_of_awp hT mixed Try.func3 rfl (by kernel_rfl) (by kernel_rfl) (Nat.le_of_ble_eq_true rfl) ?_
    refine callP awakeR_ok rfl rfl ?_
    refine callP h1 rfl rfl ?_
    refine callP h2 rfl rfl ?_
    refine fork (fun _ => ?_) (fun g => absurd hz (by rw [g]; decide))
    refine end0 rfl rfl rfl rfl
theorem deeds_yes (d : DdV) (X : ByteArray) (h1 : ACalls Try.prog 8 [d.a] [] (Ret (.tup [str X, i64 0]))) (h2 : ACalls Try.prog 9 [d.a] [] (Ret (bo true))) (h3 : ACalls Try.prog 11 [d.a] [] (Ret (str X))) (h4 : ACalls Try.prog 10 [str X] [] (Ret (.tup [d.a, i64 0]))) : ACalls Try.prog 3 [d.a] [] (Ret (bo true)) := by
  obtain ⟨k, w, t, g, m⟩ := d
  cases m <;>
  · refine acalls_of_awp hT mixed Try.func3 rfl (by kernel_rfl) (by kernel_rfl) (Nat.le_of_ble_eq_true rfl) ?_
    refine callP awakeR_ok rfl rfl ?_
    refine callP h1 rfl rfl ?_
    refine callP h2 rfl rfl ?_
    refine callP h4 rfl rfl ?_
    refine callP h3 rfl rfl ?_
    refine fork (fun _ => ?_) (fun g => absurd (strEq_iff.2 rfl) (by rw [g]; decide))
    refine fork (fun _ => ?_) (fun g => absurd g (by simp))
    refine end0 rfl rfl rfl rfl
theorem recordDeeds_ok (d : DdV) : ACalls Try.prog 3 [d.a] [] (Ret (bo true)) := by
  cases h : doneB d with
  | false => exact deeds_no d emp (strEq_iff.2 rfl) (deed_no d h) h
  | true =>
    obtain ⟨e, h1, h2, rfl⟩ := done_ex d h
    have hu := undeedU_ok (BA e.B) (by rw [BA_size]; have := B_len e h1; omega)
    rw [und_B e h1 h2] at hu
    exact deeds_yes e.v (BA e.B) (deed_ok e h1) (rdone_dec _ _ h) (rDeed_ok e h1) hu
theorem recordDeeds_law (l0 : List AV) (w0 : Wf (.strct (.cons (.int .i64) (.cons (.int .i64) (.cons (.int .i64) (.cons (.int .u64) (.cons .bool .none)))))) l0) : ACalls Try.prog 3 [argA (.strct (.cons (.int .i64) (.cons (.int .i64) (.cons (.int .i64) (.cons (.int .u64) (.cons .bool .none)))))) l0] [] (Ret (.sc (.bool true))) := by
  obtain ⟨k, w, t, x, m, rfl, hx⟩ := wf_dd w0
  exact recordDeeds_ok ⟨k, w, t, x, m⟩
end Go.Proofs.Ytkbpddejafdmdaa.A
