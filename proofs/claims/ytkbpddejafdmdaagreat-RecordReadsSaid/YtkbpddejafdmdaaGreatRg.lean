/- record: a deed is read. No condition. -/
import Derived.Test.YtkbpddejafdmdaaGreatRf
namespace Go.Proofs.YtkbpddejafdmdaaGreat.A
open Go
set_option linter.unusedVariables false
set_option linter.unusedSimpArgs false
set_option maxRecDepth 100000
set_option pp.maxSteps 400

/-- What bytes say of a deed. -/
def undP (s : ByteArray) : Option Dd2 :=
  if s.size = 0 then none
  else if octB s 0 = 4 then
    match hdP 4 s with
    | some (w, m) => if m = s.size ∧ w ≤ 7 then some ⟨true, w, 0, 0, false⟩ else none
    | none => none
  else match begP [98, 110, 110, 110, 98] s with
    | .ok [.mk a _ _ _, .mk b _ _ _, .mk c _ _ _, .mk d _ _ _, .mk e _ _ _] m => if a = 3 ∧ b ≤ 7 ∧ c ≤ 7 ∧ 1 ≤ d ∧ d ≤ 16 ∧ e ≤ 1 ∧ m = s.size then some ⟨false, b, c, d, decide (e = 1)⟩ else none
    | _ => none
theorem strEq_nilS (t : ByteArray) : strEq t ⟨#[]⟩ = decide (t.size = 0) := by
  rw [strEq_eq]
  show (t.data.toList == []) = decide (t.data.size = 0)
  rw [Bool.eq_iff_iff, beq_iff_eq, decide_eq_true_eq, ← Array.length_toList]
  exact List.length_eq_zero_iff.symm
theorem hdP_le {k : Nat} {t : ByteArray} {w m : Nat} (h : hdP k t = some (w, m)) : m ≤ t.size ∧ w ≤ 1073741824 := by
  unfold hdP at h
  cases hp : begP [98, 110] t with
  | err e => rw [hp] at h; cases h
  | ok l j =>
    rw [hp] at h
    match l, h with
    | [.mk a _ _ _, .mk b _ _ _], h =>
      dsimp only at h
      split at h
      · rename_i hh
        cases h
        exact ⟨begP_le hp, hh.2⟩
      · cases h
theorem done_dec (d : DdV) (q : Bool) (h : doneB d = q) : ACalls Tryz.prog 37 [d.a] [] (Ret (bo q)) := by rw [← h]; exact done_ok d
def UdR (o : Option Dd2) : AEnd → Heap → Prop := fun E G => G = [] ∧ match o with
  | some d => E = .ret (.tup [d.v.a, i64 0])
  | none => ∃ d : DdV, E = .ret (.tup [d.a, i64 4])
theorem sizeB_zero {s : ByteArray} (h : s.size = 0) : s = ⟨#[]⟩ := by
  have := strEq_nilS s
  rw [decide_eq_true h] at this
  exact strEq_iff.1 this
theorem undeed_nil (s : ByteArray) (h : s.size = 0) : ACalls Tryz.prog 21 [str s] [] (UdR none) := by
  have hs : strEq s ⟨#[]⟩ = true := strEq_iff.2 (sizeB_zero h)
  refine acalls_of_awpU [] hT mixed Tryz.func21 rfl (by kernel_rfl) (by kernel_rfl) (Nat.le_of_ble_eq_true rfl) ?_
  refine fork (fun g => absurd hs (by simpa using g)) (fun g => ?_)
  refine callBad must_no rfl ?_
  refine acallsD_of_rec hT mixed Tryz.func29 rfl (by kernel_rfl) (by kernel_rfl) rfl rfl rfl (plain_wrg) (Nat.le_of_ble_eq_true rfl) ?_
  exact ⟨rfl, [.row [i64 0, i64 0, i64 0, u64n 0, bo false], .row [i64 4], .dead], _, ⟨⟨_, rfl, rfl⟩, ⟨.inl rfl, .inl rfl, .inr rfl, True.intro⟩, Nat.le_of_ble_eq_true rfl, rfl⟩, True.intro, [], .tup [(DdV.mk 0 0 0 0 false).a, i64 4], ⟨⟨_, rfl, rfl⟩, True.intro, Nat.zero_le _, rfl⟩, rfl, ⟨_, rfl⟩⟩
theorem undeed_make (s : ByteArray) (h0 : s.size ≠ 0) (h4 : octB s 0 = 4) (hs : s.size ≤ 1000000) : ACalls Tryz.prog 21 [str s] [] (UdR (undP s)) := by
  have hn : strEq s ⟨#[]⟩ = false := strEq_false.2 fun e => h0 (by rw [e]; rfl)
  have hi : (0 : Int) ≤ 0 ∧ (0 : Int) < (s.size : Int) := by omega
  have hc := head_ok 4 s (by decide) hs
  unfold undP
  rw [if_neg h0, if_pos h4]
  cases hp : hdP 4 s with
  | none =>
    rw [hp] at hc
    refine acalls_of_awpU [] hT mixed Tryz.func21 rfl (by kernel_rfl) (by kernel_rfl) (Nat.le_of_ble_eq_true rfl) ?_
    refine fork (fun g => ?_) (fun g => absurd hn (by simpa using g))
    refine callP must_yes rfl rfl ?_
    refine Ob.intro hi ?_
    refine fork (fun g2 => ?_) (fun g2 => absurd (show ((octB s 0 : Nat) : Int) = 4 by omega) (beq_eq_false_iff_ne.1 g2))
    refine callS hc [2] ⟨.inl rfl, True.intro⟩ rfl ?_
    rintro E G ⟨rfl, rfl⟩ _
    refine ⟨_, _, rfl, rfl, ?_⟩
    refine acallsD_of_rec hT mixed Tryz.func29 rfl (by kernel_rfl) (by kernel_rfl) rfl rfl rfl (plain_wrg) (Nat.le_of_ble_eq_true rfl) ?_
    exact ⟨rfl, [.row [i64 0, i64 0, i64 0, u64n 0, bo false], .row [i64 4], .dead], _, ⟨⟨_, rfl, rfl⟩, ⟨.inl rfl, .inl rfl, .inr rfl, True.intro⟩, Nat.le_of_ble_eq_true rfl, rfl⟩, True.intro, [], .tup [(DdV.mk 0 0 0 0 false).a, i64 4], ⟨⟨_, rfl, rfl⟩, True.intro, Nat.zero_le _, rfl⟩, rfl, ⟨_, rfl⟩⟩
  | some wm =>
    obtain ⟨w, m⟩ := wm
    rw [hp] at hc
    obtain ⟨hm, hw⟩ := hdP_le hp
    have hr := strEq_nilS (rest s m)
    rw [rest_size] at hr
    dsimp only
    by_cases hms : m = s.size
    · rw [decide_eq_true (show s.size - m = 0 by omega)] at hr
      by_cases hw7 : w ≤ 7
      · rw [if_pos ⟨hms, hw7⟩]
        have hd := done_dec ⟨1, (w : Nat), 0, 0, false⟩ true (done_v ⟨true, w, 0, 0, false⟩ ⟨hw7, fun h => by cases h⟩)
        refine acalls_of_awpU [] hT mixed Tryz.func21 rfl (by kernel_rfl) (by kernel_rfl) (Nat.le_of_ble_eq_true rfl) ?_
        refine fork (fun g => ?_) (fun g => absurd hn (by simpa using g))
        refine callP must_yes rfl rfl ?_
        refine Ob.intro hi ?_
        refine fork (fun g2 => ?_) (fun g2 => absurd (show ((octB s 0 : Nat) : Int) = 4 by omega) (beq_eq_false_iff_ne.1 g2))
        refine callS hc [2] ⟨.inl rfl, True.intro⟩ rfl ?_
        rintro E G ⟨rfl, rfl⟩ _
        refine ⟨_, _, rfl, rfl, ?_⟩
        refine fork (fun g3 => ?_) (fun g3 => absurd hr (by rw [g3]; decide))
        refine callP hd rfl rfl ?_
        refine callP must_yes rfl rfl ?_
        refine acallsD_of_rec hT mixed Tryz.func29 rfl (by kernel_rfl) (by kernel_rfl) rfl rfl rfl (fun u b h => by cases h) (Nat.le_of_ble_eq_true rfl) ?_
        exact ⟨rfl, [.row [i64 1, i64 (w : Nat), i64 0, u64n 0, bo false], .row [i64 0], .dead], _, ⟨⟨_, rfl, rfl⟩, ⟨.inl rfl, .inl rfl, .inr rfl, True.intro⟩, Nat.le_of_ble_eq_true rfl, rfl⟩, True.intro, [], .tup [(DdV.mk 1 (w : Nat) 0 0 false).a, i64 0], ⟨⟨_, rfl, rfl⟩, True.intro, Nat.zero_le _, rfl⟩, rfl, rfl⟩
      · rw [if_neg (fun hh => hw7 hh.2)]
        have hd := done_dec ⟨1, (w : Nat), 0, 0, false⟩ false (by unfold doneB; exact decide_eq_false (fun hh => hw7 (by have := hh.1.2; dsimp only at this; omega)))
        refine acalls_of_awpU [] hT mixed Tryz.func21 rfl (by kernel_rfl) (by kernel_rfl) (Nat.le_of_ble_eq_true rfl) ?_
        refine fork (fun g => ?_) (fun g => absurd hn (by simpa using g))
        refine callP must_yes rfl rfl ?_
        refine Ob.intro hi ?_
        refine fork (fun g2 => ?_) (fun g2 => absurd (show ((octB s 0 : Nat) : Int) = 4 by omega) (beq_eq_false_iff_ne.1 g2))
        refine callS hc [2] ⟨.inl rfl, True.intro⟩ rfl ?_
        rintro E G ⟨rfl, rfl⟩ _
        refine ⟨_, _, rfl, rfl, ?_⟩
        refine fork (fun g3 => ?_) (fun g3 => absurd hr (by rw [g3]; decide))
        refine callP hd rfl rfl ?_
        refine callBad must_no rfl ?_
        refine acallsD_of_rec hT mixed Tryz.func29 rfl (by kernel_rfl) (by kernel_rfl) rfl rfl rfl (plain_wrg) (Nat.le_of_ble_eq_true rfl) ?_
        exact ⟨rfl, [.row [i64 1, i64 (w : Nat), i64 0, u64n 0, bo false], .row [i64 4], .dead], _, ⟨⟨_, rfl, rfl⟩, ⟨.inl rfl, .inl rfl, .inr rfl, True.intro⟩, Nat.le_of_ble_eq_true rfl, rfl⟩, True.intro, [], .tup [(DdV.mk 1 (w : Nat) 0 0 false).a, i64 4], ⟨⟨_, rfl, rfl⟩, True.intro, Nat.zero_le _, rfl⟩, rfl, ⟨_, rfl⟩⟩
    · rw [decide_eq_false (show ¬ s.size - m = 0 by omega)] at hr
      rw [if_neg (fun hh => hms hh.1)]
      refine acalls_of_awpU [] hT mixed Tryz.func21 rfl (by kernel_rfl) (by kernel_rfl) (Nat.le_of_ble_eq_true rfl) ?_
      refine fork (fun g => ?_) (fun g => absurd hn (by simpa using g))
      refine callP must_yes rfl rfl ?_
      refine Ob.intro hi ?_
      refine fork (fun g2 => ?_) (fun g2 => absurd (show ((octB s 0 : Nat) : Int) = 4 by omega) (beq_eq_false_iff_ne.1 g2))
      refine callS hc [2] ⟨.inl rfl, True.intro⟩ rfl ?_
      rintro E G ⟨rfl, rfl⟩ _
      refine ⟨_, _, rfl, rfl, ?_⟩
      refine fork (fun g3 => absurd hr (by rw [g3]; decide)) (fun g3 => ?_)
      refine callBad must_no rfl ?_
      refine acallsD_of_rec hT mixed Tryz.func29 rfl (by kernel_rfl) (by kernel_rfl) rfl rfl rfl (plain_wrg) (Nat.le_of_ble_eq_true rfl) ?_
      exact ⟨rfl, [.row [i64 1, i64 (w : Nat), i64 0, u64n 0, bo false], .row [i64 4], .dead], _, ⟨⟨_, rfl, rfl⟩, ⟨.inl rfl, .inl rfl, .inr rfl, True.intro⟩, Nat.le_of_ble_eq_true rfl, rfl⟩, True.intro, [], .tup [(DdV.mk 1 (w : Nat) 0 0 false).a, i64 4], ⟨⟨_, rfl, rfl⟩, True.intro, Nat.zero_le _, rfl⟩, rfl, ⟨_, rfl⟩⟩
theorem sh_g : shP [98, 110, 110, 110, 98] = some [(98, false), (110, false), (110, false), (110, false), (98, false)] := by decide
set_option maxHeartbeats 4000000 in
theorem undeed_give (s : ByteArray) (h0 : s.size ≠ 0) (h4 : octB s 0 ≠ 4) (hs : s.size ≤ 1000000) : ACalls Tryz.prog 21 [str s] [] (UdR (undP s)) := by
  have hn : strEq s ⟨#[]⟩ = false := strEq_false.2 fun e => h0 (by rw [e]; rfl)
  have hi : (0 : Int) ≤ 0 ∧ (0 : Int) < (s.size : Int) := by omega
  have hc := part_ok ⟨#[98, 110, 110, 110, 98]⟩ s (by decide) hs
  rw [show byL ⟨#[98, 110, 110, 110, 98]⟩ = [98, 110, 110, 110, 98] from rfl] at hc
  unfold undP
  rw [if_neg h0, if_neg h4]
  cases hp : begP [98, 110, 110, 110, 98] s with
  | err e =>
    rw [hp] at hc
    refine acalls_of_awpU [] hT mixed Tryz.func21 rfl (by kernel_rfl) (by kernel_rfl) (Nat.le_of_ble_eq_true rfl) ?_
    refine fork (fun g => ?_) (fun g => absurd hn (by simpa using g))
    refine callP must_yes rfl rfl ?_
    refine Ob.intro hi ?_
    refine fork (fun g2 => absurd (show octB s 0 = 4 by have : ((octB s 0 : Nat) : Int) = 4 := beq_iff_eq.1 g2; omega) h4) (fun g2 => ?_)
    refine callS hc [2] ⟨.inl rfl, True.intro⟩ rfl ?_
    rintro E G ⟨rfl, rfl⟩ _
    refine ⟨_, _, rfl, rfl, ?_⟩
    refine acallsD_of_rec hT mixed Tryz.func29 rfl (by kernel_rfl) (by kernel_rfl) rfl rfl rfl (plain_wrg) (Nat.le_of_ble_eq_true rfl) ?_
    exact ⟨rfl, [.row [i64 0, i64 0, i64 0, u64n 0, bo false], .row [i64 4], .dead], _, ⟨⟨_, rfl, rfl⟩, ⟨.inl rfl, .inl rfl, .inr rfl, True.intro⟩, Nat.le_of_ble_eq_true rfl, rfl⟩, True.intro, [], .tup [(DdV.mk 0 0 0 0 false).a, i64 4], ⟨⟨_, rfl, rfl⟩, True.intro, Nat.zero_le _, rfl⟩, rfl, ⟨_, rfl⟩⟩
  | ok l m =>
    rw [hp] at hc
    have hl := begP_length sh_g hp
    have hm := begP_le hp
    have hr := strEq_nilS (rest s m)
    rw [rest_size] at hr
    match l, hl with
    | [.mk a s1 l1 k1, .mk b s2 l2 k2, .mk c s3 l3 k3, .mk d s4 l4 k4, .mk e s5 l5 k5], _ =>
      dsimp only
      have hz : (0 : Int) ≤ 0 ∧ (0 : Int) < ((5 : Nat) : Int) := by omega
      have h1 : (0 : Int) ≤ 1 ∧ (1 : Int) < ((5 : Nat) : Int) := by omega
      have h2 : (0 : Int) ≤ 2 ∧ (2 : Int) < ((5 : Nat) : Int) := by omega
      have h3 : (0 : Int) ≤ 3 ∧ (3 : Int) < ((5 : Nat) : Int) := by omega
      have h4' : (0 : Int) ≤ 4 ∧ (4 : Int) < ((5 : Nat) : Int) := by omega
      by_cases ha : a = 3
      · by_cases hb : b ≤ 1073741824
        · have c1 := small_ok b s2 l2 k2 hb
          by_cases hcc : c ≤ 1073741824
          · have c2 := small_ok c s3 l3 k3 hcc
            by_cases he : e ≤ 1
            · have c3 := is_ok e s5 l5 k5 he
              by_cases hms : m = s.size
              · rw [decide_eq_true (show s.size - m = 0 by omega)] at hr
                by_cases hdn : b ≤ 7 ∧ c ≤ 7 ∧ 1 ≤ d ∧ d ≤ 16
                · rw [if_pos ⟨ha, hdn.1, hdn.2.1, hdn.2.2.1, hdn.2.2.2, he, hms⟩]
                  have hd := done_dec ⟨2, (b : Nat), (c : Nat), d, decide (e = 1)⟩ true (done_v ⟨false, b, c, d, decide (e = 1)⟩ ⟨hdn.1, fun _ => hdn.2⟩)
                  generalize decide (e = 1) = q at c3 hd ⊢
                  cases q <;>
                  · refine acalls_of_awpU [] hT mixed Tryz.func21 rfl (by kernel_rfl) (by kernel_rfl) (Nat.le_of_ble_eq_true rfl) ?_
                    refine fork (fun g => ?_) (fun g => absurd hn (by simpa using g))
                    refine callP must_yes rfl rfl ?_
                    refine Ob.intro hi ?_
                    refine fork (fun g2 => absurd (show octB s 0 = 4 by have : ((octB s 0 : Nat) : Int) = 4 := beq_iff_eq.1 g2; omega) h4) (fun g2 => ?_)
                    refine callS hc [2] ⟨.inl rfl, True.intro⟩ rfl ?_
                    rintro E G ⟨rfl, rfl⟩ _
                    refine ⟨_, _, rfl, rfl, ?_⟩
                    refine Ob.intro hz ?_
                    refine fork (fun g3 => ?_) (fun g3 => absurd (show (a : Int) = 3 by omega) (beq_eq_false_iff_ne.1 g3))
                    refine callP must_yes rfl rfl ?_
                    refine ⟨[0, 0, 0, 1, 0, 0, 0, 2, 0, 0, 0, 0, 0, 0, 0, 3, 4, 4, 5, 5, 6, 6, 7, 7, 8, 8, 9], [[], [0], [0, 1], [0, 1, 2], [], [4], [4, 5], [0, 1, 2, 3, 4, 5, 6], [], [8], [8, 9], [8, 9, 10], [], [12], [12, 13], [0, 1, 2, 3, 4, 5, 6, 7, 12, 13, 14], [0, 1, 2, 3, 4, 5, 6, 7, 12, 13, 14, 15], [0, 1, 2, 3, 4, 5, 6, 7, 12, 13, 14, 15, 16], [0, 1, 2, 3, 4, 5, 6, 7, 12, 13, 14, 15, 16, 17], [0, 1, 2, 3, 4, 5, 6, 7, 12, 13, 14, 15, 16, 17, 18], [0, 1, 2, 3, 4, 5, 6, 7, 12, 13, 14, 15, 16, 17, 18, 19], [0, 1, 2, 3, 4, 5, 6, 7, 12, 13, 14, 15, 16, 17, 18, 19, 20], [0, 1, 2, 3, 4, 5, 6, 7, 12, 13, 14, 15, 16, 17, 18, 19, 20, 21], [0, 1, 2, 3, 4, 5, 6, 7, 8, 9, 10, 11, 12, 13, 14, 15, 16, 17, 18, 19, 20, 21, 22], [0, 1, 2, 3, 4, 5, 6, 7, 8, 9, 10, 11, 12, 13, 14, 15, 16, 17, 18, 19, 20, 21, 22, 23], [0, 1, 2, 3, 4, 5, 6, 7, 8, 9, 10, 11, 12, 13, 14, 15, 16, 17, 18, 19, 20, 21, 22, 23, 24], [0, 1, 2, 3, 4, 5, 6, 7, 8, 9, 10, 11, 12, 13, 14, 15, 16, 17, 18, 19, 20, 21, 22, 23, 24, 25]], [0, 0, 0, 0, 0, 0, 0, 0, 0, 0, 0, 0, 0, 0, 0, 0, 0, 0, 0, 0, 0, 0, 0, 0, 0, 0, 0], [3, 7, 15, 16, 18, 20, 22, 24, 26], [[5], [26], [27], [28], [5], [30], [31], [32], [5], [34], [35], [36], [5], [38], [39], [40], [2], [2], [42], [2], [43, 29], [2], [44, 33], [2], [45, 37], [2], [46, 41]], Ob.intro (by kernel_rfl) ?_⟩
                    repeat first | refine same ?_ | refine Ob.intro h1 ?_ | refine Ob.intro h2 ?_ | refine Ob.intro h3 ?_ | refine Ob.intro h4' ?_
                    refine callP c1 rfl rfl ?_
                    repeat first | refine same ?_ | refine Ob.intro h1 ?_ | refine Ob.intro h2 ?_ | refine Ob.intro h3 ?_ | refine Ob.intro h4' ?_
                    refine callP c2 rfl rfl ?_
                    repeat first | refine same ?_ | refine Ob.intro h1 ?_ | refine Ob.intro h2 ?_ | refine Ob.intro h3 ?_ | refine Ob.intro h4' ?_
                    refine callP c3 rfl rfl ?_
                    repeat first | refine same ?_ | refine Ob.intro h1 ?_ | refine Ob.intro h2 ?_ | refine Ob.intro h3 ?_ | refine Ob.intro h4' ?_
                    refine fork (fun g3 => ?_) (fun g3 => absurd hr (by rw [g3]; decide))
                    refine callP hd rfl rfl ?_
                    refine callP must_yes rfl rfl ?_
                    refine acallsD_of_rec hT mixed Tryz.func29 rfl (by kernel_rfl) (by kernel_rfl) rfl rfl rfl (fun u b h => by cases h) (Nat.le_of_ble_eq_true rfl) ?_
                    exact ⟨rfl, [.row [i64 2, i64 (b : Nat), i64 (c : Nat), u64n d, bo _], .row [i64 0], .dead], _, ⟨⟨_, rfl, rfl⟩, ⟨.inl rfl, .inl rfl, .inr rfl, True.intro⟩, Nat.le_of_ble_eq_true rfl, rfl⟩, True.intro, [], .tup [(DdV.mk 2 (b : Nat) (c : Nat) d _).a, i64 0], ⟨⟨_, rfl, rfl⟩, True.intro, Nat.zero_le _, rfl⟩, rfl, rfl⟩
                · rw [if_neg (fun hh => hdn ⟨hh.2.1, hh.2.2.1, hh.2.2.2.1, hh.2.2.2.2.1⟩)]
                  have hd := done_dec ⟨2, (b : Nat), (c : Nat), d, decide (e = 1)⟩ false (by
                    unfold doneB
                    dsimp only
                    exact decide_eq_false (fun hh => hdn (by omega)))
                  generalize decide (e = 1) = q at c3 hd ⊢
                  cases q <;>
                  · refine acalls_of_awpU [] hT mixed Tryz.func21 rfl (by kernel_rfl) (by kernel_rfl) (Nat.le_of_ble_eq_true rfl) ?_
                    refine fork (fun g => ?_) (fun g => absurd hn (by simpa using g))
                    refine callP must_yes rfl rfl ?_
                    refine Ob.intro hi ?_
                    refine fork (fun g2 => absurd (show octB s 0 = 4 by have : ((octB s 0 : Nat) : Int) = 4 := beq_iff_eq.1 g2; omega) h4) (fun g2 => ?_)
                    refine callS hc [2] ⟨.inl rfl, True.intro⟩ rfl ?_
                    rintro E G ⟨rfl, rfl⟩ _
                    refine ⟨_, _, rfl, rfl, ?_⟩
                    refine Ob.intro hz ?_
                    refine fork (fun g3 => ?_) (fun g3 => absurd (show (a : Int) = 3 by omega) (beq_eq_false_iff_ne.1 g3))
                    refine callP must_yes rfl rfl ?_
                    refine ⟨[0, 0, 0, 1, 0, 0, 0, 2, 0, 0, 0, 0, 0, 0, 0, 3, 4, 4, 5, 5, 6, 6, 7, 7, 8, 8, 9], [[], [0], [0, 1], [0, 1, 2], [], [4], [4, 5], [0, 1, 2, 3, 4, 5, 6], [], [8], [8, 9], [8, 9, 10], [], [12], [12, 13], [0, 1, 2, 3, 4, 5, 6, 7, 12, 13, 14], [0, 1, 2, 3, 4, 5, 6, 7, 12, 13, 14, 15], [0, 1, 2, 3, 4, 5, 6, 7, 12, 13, 14, 15, 16], [0, 1, 2, 3, 4, 5, 6, 7, 12, 13, 14, 15, 16, 17], [0, 1, 2, 3, 4, 5, 6, 7, 12, 13, 14, 15, 16, 17, 18], [0, 1, 2, 3, 4, 5, 6, 7, 12, 13, 14, 15, 16, 17, 18, 19], [0, 1, 2, 3, 4, 5, 6, 7, 12, 13, 14, 15, 16, 17, 18, 19, 20], [0, 1, 2, 3, 4, 5, 6, 7, 12, 13, 14, 15, 16, 17, 18, 19, 20, 21], [0, 1, 2, 3, 4, 5, 6, 7, 8, 9, 10, 11, 12, 13, 14, 15, 16, 17, 18, 19, 20, 21, 22], [0, 1, 2, 3, 4, 5, 6, 7, 8, 9, 10, 11, 12, 13, 14, 15, 16, 17, 18, 19, 20, 21, 22, 23], [0, 1, 2, 3, 4, 5, 6, 7, 8, 9, 10, 11, 12, 13, 14, 15, 16, 17, 18, 19, 20, 21, 22, 23, 24], [0, 1, 2, 3, 4, 5, 6, 7, 8, 9, 10, 11, 12, 13, 14, 15, 16, 17, 18, 19, 20, 21, 22, 23, 24, 25]], [0, 0, 0, 0, 0, 0, 0, 0, 0, 0, 0, 0, 0, 0, 0, 0, 0, 0, 0, 0, 0, 0, 0, 0, 0, 0, 0], [3, 7, 15, 16, 18, 20, 22, 24, 26], [[5], [26], [27], [28], [5], [30], [31], [32], [5], [34], [35], [36], [5], [38], [39], [40], [2], [2], [42], [2], [43, 29], [2], [44, 33], [2], [45, 37], [2], [46, 41]], Ob.intro (by kernel_rfl) ?_⟩
                    repeat first | refine same ?_ | refine Ob.intro h1 ?_ | refine Ob.intro h2 ?_ | refine Ob.intro h3 ?_ | refine Ob.intro h4' ?_
                    refine callP c1 rfl rfl ?_
                    repeat first | refine same ?_ | refine Ob.intro h1 ?_ | refine Ob.intro h2 ?_ | refine Ob.intro h3 ?_ | refine Ob.intro h4' ?_
                    refine callP c2 rfl rfl ?_
                    repeat first | refine same ?_ | refine Ob.intro h1 ?_ | refine Ob.intro h2 ?_ | refine Ob.intro h3 ?_ | refine Ob.intro h4' ?_
                    refine callP c3 rfl rfl ?_
                    repeat first | refine same ?_ | refine Ob.intro h1 ?_ | refine Ob.intro h2 ?_ | refine Ob.intro h3 ?_ | refine Ob.intro h4' ?_
                    refine fork (fun g3 => ?_) (fun g3 => absurd hr (by rw [g3]; decide))
                    refine callP hd rfl rfl ?_
                    refine callBad must_no rfl ?_
                    refine acallsD_of_rec hT mixed Tryz.func29 rfl (by kernel_rfl) (by kernel_rfl) rfl rfl rfl (plain_wrg) (Nat.le_of_ble_eq_true rfl) ?_
                    exact ⟨rfl, [.row [i64 2, i64 (b : Nat), i64 (c : Nat), u64n d, bo _], .row [i64 4], .dead], _, ⟨⟨_, rfl, rfl⟩, ⟨.inl rfl, .inl rfl, .inr rfl, True.intro⟩, Nat.le_of_ble_eq_true rfl, rfl⟩, True.intro, [], .tup [(DdV.mk 2 (b : Nat) (c : Nat) d _).a, i64 4], ⟨⟨_, rfl, rfl⟩, True.intro, Nat.zero_le _, rfl⟩, rfl, ⟨_, rfl⟩⟩
              · rw [decide_eq_false (show ¬ s.size - m = 0 by omega)] at hr
                rw [if_neg (fun hh => hms hh.2.2.2.2.2.2)]
                generalize decide (e = 1) = q at c3 ⊢
                cases q <;>
                · refine acalls_of_awpU [] hT mixed Tryz.func21 rfl (by kernel_rfl) (by kernel_rfl) (Nat.le_of_ble_eq_true rfl) ?_
                  refine fork (fun g => ?_) (fun g => absurd hn (by simpa using g))
                  refine callP must_yes rfl rfl ?_
                  refine Ob.intro hi ?_
                  refine fork (fun g2 => absurd (show octB s 0 = 4 by have : ((octB s 0 : Nat) : Int) = 4 := beq_iff_eq.1 g2; omega) h4) (fun g2 => ?_)
                  refine callS hc [2] ⟨.inl rfl, True.intro⟩ rfl ?_
                  rintro E G ⟨rfl, rfl⟩ _
                  refine ⟨_, _, rfl, rfl, ?_⟩
                  refine Ob.intro hz ?_
                  refine fork (fun g3 => ?_) (fun g3 => absurd (show (a : Int) = 3 by omega) (beq_eq_false_iff_ne.1 g3))
                  refine callP must_yes rfl rfl ?_
                  refine ⟨[0, 0, 0, 1, 0, 0, 0, 2, 0, 0, 0, 0, 0, 0, 0, 3, 4, 4, 5, 5, 6, 6, 7, 7, 8, 8, 9], [[], [0], [0, 1], [0, 1, 2], [], [4], [4, 5], [0, 1, 2, 3, 4, 5, 6], [], [8], [8, 9], [8, 9, 10], [], [12], [12, 13], [0, 1, 2, 3, 4, 5, 6, 7, 12, 13, 14], [0, 1, 2, 3, 4, 5, 6, 7, 12, 13, 14, 15], [0, 1, 2, 3, 4, 5, 6, 7, 12, 13, 14, 15, 16], [0, 1, 2, 3, 4, 5, 6, 7, 12, 13, 14, 15, 16, 17], [0, 1, 2, 3, 4, 5, 6, 7, 12, 13, 14, 15, 16, 17, 18], [0, 1, 2, 3, 4, 5, 6, 7, 12, 13, 14, 15, 16, 17, 18, 19], [0, 1, 2, 3, 4, 5, 6, 7, 12, 13, 14, 15, 16, 17, 18, 19, 20], [0, 1, 2, 3, 4, 5, 6, 7, 12, 13, 14, 15, 16, 17, 18, 19, 20, 21], [0, 1, 2, 3, 4, 5, 6, 7, 8, 9, 10, 11, 12, 13, 14, 15, 16, 17, 18, 19, 20, 21, 22], [0, 1, 2, 3, 4, 5, 6, 7, 8, 9, 10, 11, 12, 13, 14, 15, 16, 17, 18, 19, 20, 21, 22, 23], [0, 1, 2, 3, 4, 5, 6, 7, 8, 9, 10, 11, 12, 13, 14, 15, 16, 17, 18, 19, 20, 21, 22, 23, 24], [0, 1, 2, 3, 4, 5, 6, 7, 8, 9, 10, 11, 12, 13, 14, 15, 16, 17, 18, 19, 20, 21, 22, 23, 24, 25]], [0, 0, 0, 0, 0, 0, 0, 0, 0, 0, 0, 0, 0, 0, 0, 0, 0, 0, 0, 0, 0, 0, 0, 0, 0, 0, 0], [3, 7, 15, 16, 18, 20, 22, 24, 26], [[5], [26], [27], [28], [5], [30], [31], [32], [5], [34], [35], [36], [5], [38], [39], [40], [2], [2], [42], [2], [43, 29], [2], [44, 33], [2], [45, 37], [2], [46, 41]], Ob.intro (by kernel_rfl) ?_⟩
                  repeat first | refine same ?_ | refine Ob.intro h1 ?_ | refine Ob.intro h2 ?_ | refine Ob.intro h3 ?_ | refine Ob.intro h4' ?_
                  refine callP c1 rfl rfl ?_
                  repeat first | refine same ?_ | refine Ob.intro h1 ?_ | refine Ob.intro h2 ?_ | refine Ob.intro h3 ?_ | refine Ob.intro h4' ?_
                  refine callP c2 rfl rfl ?_
                  repeat first | refine same ?_ | refine Ob.intro h1 ?_ | refine Ob.intro h2 ?_ | refine Ob.intro h3 ?_ | refine Ob.intro h4' ?_
                  refine callP c3 rfl rfl ?_
                  repeat first | refine same ?_ | refine Ob.intro h1 ?_ | refine Ob.intro h2 ?_ | refine Ob.intro h3 ?_ | refine Ob.intro h4' ?_
                  refine fork (fun g3 => absurd hr (by rw [g3]; decide)) (fun g3 => ?_)
                  refine callBad must_no rfl ?_
                  refine acallsD_of_rec hT mixed Tryz.func29 rfl (by kernel_rfl) (by kernel_rfl) rfl rfl rfl (plain_wrg) (Nat.le_of_ble_eq_true rfl) ?_
                  exact ⟨rfl, [.row [i64 2, i64 (b : Nat), i64 (c : Nat), u64n d, bo _], .row [i64 4], .dead], _, ⟨⟨_, rfl, rfl⟩, ⟨.inl rfl, .inl rfl, .inr rfl, True.intro⟩, Nat.le_of_ble_eq_true rfl, rfl⟩, True.intro, [], .tup [(DdV.mk 2 (b : Nat) (c : Nat) d _).a, i64 4], ⟨⟨_, rfl, rfl⟩, True.intro, Nat.zero_le _, rfl⟩, rfl, ⟨_, rfl⟩⟩
            · rw [if_neg (fun hh => he hh.2.2.2.2.2.1)]
              have c3 := is_no e s5 l5 k5 he
              refine acalls_of_awpU [] hT mixed Tryz.func21 rfl (by kernel_rfl) (by kernel_rfl) (Nat.le_of_ble_eq_true rfl) ?_
              refine fork (fun g => ?_) (fun g => absurd hn (by simpa using g))
              refine callP must_yes rfl rfl ?_
              refine Ob.intro hi ?_
              refine fork (fun g2 => absurd (show octB s 0 = 4 by have : ((octB s 0 : Nat) : Int) = 4 := beq_iff_eq.1 g2; omega) h4) (fun g2 => ?_)
              refine callS hc [2] ⟨.inl rfl, True.intro⟩ rfl ?_
              rintro E G ⟨rfl, rfl⟩ _
              refine ⟨_, _, rfl, rfl, ?_⟩
              refine Ob.intro hz ?_
              refine fork (fun g3 => ?_) (fun g3 => absurd (show (a : Int) = 3 by omega) (beq_eq_false_iff_ne.1 g3))
              refine callP must_yes rfl rfl ?_
              refine ⟨[0, 0, 0, 1, 0, 0, 0, 2, 0, 0, 0, 0, 0, 0, 0, 3, 4, 4, 5, 5, 6, 6, 7, 7, 8, 8, 9], [[], [0], [0, 1], [0, 1, 2], [], [4], [4, 5], [0, 1, 2, 3, 4, 5, 6], [], [8], [8, 9], [8, 9, 10], [], [12], [12, 13], [0, 1, 2, 3, 4, 5, 6, 7, 12, 13, 14], [0, 1, 2, 3, 4, 5, 6, 7, 12, 13, 14, 15], [0, 1, 2, 3, 4, 5, 6, 7, 12, 13, 14, 15, 16], [0, 1, 2, 3, 4, 5, 6, 7, 12, 13, 14, 15, 16, 17], [0, 1, 2, 3, 4, 5, 6, 7, 12, 13, 14, 15, 16, 17, 18], [0, 1, 2, 3, 4, 5, 6, 7, 12, 13, 14, 15, 16, 17, 18, 19], [0, 1, 2, 3, 4, 5, 6, 7, 12, 13, 14, 15, 16, 17, 18, 19, 20], [0, 1, 2, 3, 4, 5, 6, 7, 12, 13, 14, 15, 16, 17, 18, 19, 20, 21], [0, 1, 2, 3, 4, 5, 6, 7, 8, 9, 10, 11, 12, 13, 14, 15, 16, 17, 18, 19, 20, 21, 22], [0, 1, 2, 3, 4, 5, 6, 7, 8, 9, 10, 11, 12, 13, 14, 15, 16, 17, 18, 19, 20, 21, 22, 23], [0, 1, 2, 3, 4, 5, 6, 7, 8, 9, 10, 11, 12, 13, 14, 15, 16, 17, 18, 19, 20, 21, 22, 23, 24], [0, 1, 2, 3, 4, 5, 6, 7, 8, 9, 10, 11, 12, 13, 14, 15, 16, 17, 18, 19, 20, 21, 22, 23, 24, 25]], [0, 0, 0, 0, 0, 0, 0, 0, 0, 0, 0, 0, 0, 0, 0, 0, 0, 0, 0, 0, 0, 0, 0, 0, 0, 0, 0], [3, 7, 15, 16, 18, 20, 22, 24, 26], [[5], [26], [27], [28], [5], [30], [31], [32], [5], [34], [35], [36], [5], [38], [39], [40], [2], [2], [42], [2], [43, 29], [2], [44, 33], [2], [45, 37], [2], [46, 41]], Ob.intro (by kernel_rfl) ?_⟩
              repeat first | refine same ?_ | refine Ob.intro h1 ?_ | refine Ob.intro h2 ?_ | refine Ob.intro h3 ?_ | refine Ob.intro h4' ?_
              refine callP c1 rfl rfl ?_
              repeat first | refine same ?_ | refine Ob.intro h1 ?_ | refine Ob.intro h2 ?_ | refine Ob.intro h3 ?_ | refine Ob.intro h4' ?_
              refine callP c2 rfl rfl ?_
              repeat first | refine same ?_ | refine Ob.intro h1 ?_ | refine Ob.intro h2 ?_ | refine Ob.intro h3 ?_ | refine Ob.intro h4' ?_
              refine callBad c3 rfl ?_
              refine acallsD_of_rec hT mixed Tryz.func29 rfl (by kernel_rfl) (by kernel_rfl) rfl rfl rfl (plain_wrg) (Nat.le_of_ble_eq_true rfl) ?_
              exact ⟨rfl, [.row [i64 0, i64 0, i64 0, u64n 0, bo false], .row [i64 4], .dead], _, ⟨⟨_, rfl, rfl⟩, ⟨.inl rfl, .inl rfl, .inr rfl, True.intro⟩, Nat.le_of_ble_eq_true rfl, rfl⟩, True.intro, [], .tup [(DdV.mk 0 0 0 0 false).a, i64 4], ⟨⟨_, rfl, rfl⟩, True.intro, Nat.zero_le _, rfl⟩, rfl, ⟨_, rfl⟩⟩
          · rw [if_neg (fun hh => hcc (by omega))]
            have c2 := small_no c s3 l3 k3 hcc
            refine acalls_of_awpU [] hT mixed Tryz.func21 rfl (by kernel_rfl) (by kernel_rfl) (Nat.le_of_ble_eq_true rfl) ?_
            refine fork (fun g => ?_) (fun g => absurd hn (by simpa using g))
            refine callP must_yes rfl rfl ?_
            refine Ob.intro hi ?_
            refine fork (fun g2 => absurd (show octB s 0 = 4 by have : ((octB s 0 : Nat) : Int) = 4 := beq_iff_eq.1 g2; omega) h4) (fun g2 => ?_)
            refine callS hc [2] ⟨.inl rfl, True.intro⟩ rfl ?_
            rintro E G ⟨rfl, rfl⟩ _
            refine ⟨_, _, rfl, rfl, ?_⟩
            refine Ob.intro hz ?_
            refine fork (fun g3 => ?_) (fun g3 => absurd (show (a : Int) = 3 by omega) (beq_eq_false_iff_ne.1 g3))
            refine callP must_yes rfl rfl ?_
            refine ⟨[0, 0, 0, 1, 0, 0, 0, 2, 0, 0, 0, 0, 0, 0, 0, 3, 4, 4, 5, 5, 6, 6, 7, 7, 8, 8, 9], [[], [0], [0, 1], [0, 1, 2], [], [4], [4, 5], [0, 1, 2, 3, 4, 5, 6], [], [8], [8, 9], [8, 9, 10], [], [12], [12, 13], [0, 1, 2, 3, 4, 5, 6, 7, 12, 13, 14], [0, 1, 2, 3, 4, 5, 6, 7, 12, 13, 14, 15], [0, 1, 2, 3, 4, 5, 6, 7, 12, 13, 14, 15, 16], [0, 1, 2, 3, 4, 5, 6, 7, 12, 13, 14, 15, 16, 17], [0, 1, 2, 3, 4, 5, 6, 7, 12, 13, 14, 15, 16, 17, 18], [0, 1, 2, 3, 4, 5, 6, 7, 12, 13, 14, 15, 16, 17, 18, 19], [0, 1, 2, 3, 4, 5, 6, 7, 12, 13, 14, 15, 16, 17, 18, 19, 20], [0, 1, 2, 3, 4, 5, 6, 7, 12, 13, 14, 15, 16, 17, 18, 19, 20, 21], [0, 1, 2, 3, 4, 5, 6, 7, 8, 9, 10, 11, 12, 13, 14, 15, 16, 17, 18, 19, 20, 21, 22], [0, 1, 2, 3, 4, 5, 6, 7, 8, 9, 10, 11, 12, 13, 14, 15, 16, 17, 18, 19, 20, 21, 22, 23], [0, 1, 2, 3, 4, 5, 6, 7, 8, 9, 10, 11, 12, 13, 14, 15, 16, 17, 18, 19, 20, 21, 22, 23, 24], [0, 1, 2, 3, 4, 5, 6, 7, 8, 9, 10, 11, 12, 13, 14, 15, 16, 17, 18, 19, 20, 21, 22, 23, 24, 25]], [0, 0, 0, 0, 0, 0, 0, 0, 0, 0, 0, 0, 0, 0, 0, 0, 0, 0, 0, 0, 0, 0, 0, 0, 0, 0, 0], [3, 7, 15, 16, 18, 20, 22, 24, 26], [[5], [26], [27], [28], [5], [30], [31], [32], [5], [34], [35], [36], [5], [38], [39], [40], [2], [2], [42], [2], [43, 29], [2], [44, 33], [2], [45, 37], [2], [46, 41]], Ob.intro (by kernel_rfl) ?_⟩
            repeat first | refine same ?_ | refine Ob.intro h1 ?_ | refine Ob.intro h2 ?_ | refine Ob.intro h3 ?_ | refine Ob.intro h4' ?_
            refine callP c1 rfl rfl ?_
            repeat first | refine same ?_ | refine Ob.intro h1 ?_ | refine Ob.intro h2 ?_ | refine Ob.intro h3 ?_ | refine Ob.intro h4' ?_
            refine callBad c2 rfl ?_
            refine acallsD_of_rec hT mixed Tryz.func29 rfl (by kernel_rfl) (by kernel_rfl) rfl rfl rfl (plain_wrg) (Nat.le_of_ble_eq_true rfl) ?_
            exact ⟨rfl, [.row [i64 0, i64 0, i64 0, u64n 0, bo false], .row [i64 4], .dead], _, ⟨⟨_, rfl, rfl⟩, ⟨.inl rfl, .inl rfl, .inr rfl, True.intro⟩, Nat.le_of_ble_eq_true rfl, rfl⟩, True.intro, [], .tup [(DdV.mk 0 0 0 0 false).a, i64 4], ⟨⟨_, rfl, rfl⟩, True.intro, Nat.zero_le _, rfl⟩, rfl, ⟨_, rfl⟩⟩
        · rw [if_neg (fun hh => hb (by omega))]
          have c1 := small_no b s2 l2 k2 hb
          refine acalls_of_awpU [] hT mixed Tryz.func21 rfl (by kernel_rfl) (by kernel_rfl) (Nat.le_of_ble_eq_true rfl) ?_
          refine fork (fun g => ?_) (fun g => absurd hn (by simpa using g))
          refine callP must_yes rfl rfl ?_
          refine Ob.intro hi ?_
          refine fork (fun g2 => absurd (show octB s 0 = 4 by have : ((octB s 0 : Nat) : Int) = 4 := beq_iff_eq.1 g2; omega) h4) (fun g2 => ?_)
          refine callS hc [2] ⟨.inl rfl, True.intro⟩ rfl ?_
          rintro E G ⟨rfl, rfl⟩ _
          refine ⟨_, _, rfl, rfl, ?_⟩
          refine Ob.intro hz ?_
          refine fork (fun g3 => ?_) (fun g3 => absurd (show (a : Int) = 3 by omega) (beq_eq_false_iff_ne.1 g3))
          refine callP must_yes rfl rfl ?_
          refine ⟨[0, 0, 0, 1, 0, 0, 0, 2, 0, 0, 0, 0, 0, 0, 0, 3, 4, 4, 5, 5, 6, 6, 7, 7, 8, 8, 9], [[], [0], [0, 1], [0, 1, 2], [], [4], [4, 5], [0, 1, 2, 3, 4, 5, 6], [], [8], [8, 9], [8, 9, 10], [], [12], [12, 13], [0, 1, 2, 3, 4, 5, 6, 7, 12, 13, 14], [0, 1, 2, 3, 4, 5, 6, 7, 12, 13, 14, 15], [0, 1, 2, 3, 4, 5, 6, 7, 12, 13, 14, 15, 16], [0, 1, 2, 3, 4, 5, 6, 7, 12, 13, 14, 15, 16, 17], [0, 1, 2, 3, 4, 5, 6, 7, 12, 13, 14, 15, 16, 17, 18], [0, 1, 2, 3, 4, 5, 6, 7, 12, 13, 14, 15, 16, 17, 18, 19], [0, 1, 2, 3, 4, 5, 6, 7, 12, 13, 14, 15, 16, 17, 18, 19, 20], [0, 1, 2, 3, 4, 5, 6, 7, 12, 13, 14, 15, 16, 17, 18, 19, 20, 21], [0, 1, 2, 3, 4, 5, 6, 7, 8, 9, 10, 11, 12, 13, 14, 15, 16, 17, 18, 19, 20, 21, 22], [0, 1, 2, 3, 4, 5, 6, 7, 8, 9, 10, 11, 12, 13, 14, 15, 16, 17, 18, 19, 20, 21, 22, 23], [0, 1, 2, 3, 4, 5, 6, 7, 8, 9, 10, 11, 12, 13, 14, 15, 16, 17, 18, 19, 20, 21, 22, 23, 24], [0, 1, 2, 3, 4, 5, 6, 7, 8, 9, 10, 11, 12, 13, 14, 15, 16, 17, 18, 19, 20, 21, 22, 23, 24, 25]], [0, 0, 0, 0, 0, 0, 0, 0, 0, 0, 0, 0, 0, 0, 0, 0, 0, 0, 0, 0, 0, 0, 0, 0, 0, 0, 0], [3, 7, 15, 16, 18, 20, 22, 24, 26], [[5], [26], [27], [28], [5], [30], [31], [32], [5], [34], [35], [36], [5], [38], [39], [40], [2], [2], [42], [2], [43, 29], [2], [44, 33], [2], [45, 37], [2], [46, 41]], Ob.intro (by kernel_rfl) ?_⟩
          repeat first | refine same ?_ | refine Ob.intro h1 ?_ | refine Ob.intro h2 ?_ | refine Ob.intro h3 ?_ | refine Ob.intro h4' ?_
          refine callBad c1 rfl ?_
          refine acallsD_of_rec hT mixed Tryz.func29 rfl (by kernel_rfl) (by kernel_rfl) rfl rfl rfl (plain_wrg) (Nat.le_of_ble_eq_true rfl) ?_
          exact ⟨rfl, [.row [i64 0, i64 0, i64 0, u64n 0, bo false], .row [i64 4], .dead], _, ⟨⟨_, rfl, rfl⟩, ⟨.inl rfl, .inl rfl, .inr rfl, True.intro⟩, Nat.le_of_ble_eq_true rfl, rfl⟩, True.intro, [], .tup [(DdV.mk 0 0 0 0 false).a, i64 4], ⟨⟨_, rfl, rfl⟩, True.intro, Nat.zero_le _, rfl⟩, rfl, ⟨_, rfl⟩⟩
      · rw [if_neg (fun hh => ha hh.1)]
        refine acalls_of_awpU [] hT mixed Tryz.func21 rfl (by kernel_rfl) (by kernel_rfl) (Nat.le_of_ble_eq_true rfl) ?_
        refine fork (fun g => ?_) (fun g => absurd hn (by simpa using g))
        refine callP must_yes rfl rfl ?_
        refine Ob.intro hi ?_
        refine fork (fun g2 => absurd (show octB s 0 = 4 by have : ((octB s 0 : Nat) : Int) = 4 := beq_iff_eq.1 g2; omega) h4) (fun g2 => ?_)
        refine callS hc [2] ⟨.inl rfl, True.intro⟩ rfl ?_
        rintro E G ⟨rfl, rfl⟩ _
        refine ⟨_, _, rfl, rfl, ?_⟩
        refine Ob.intro hz ?_
        refine fork (fun g3 => absurd (show a = 3 by have : (a : Int) = 3 := beq_iff_eq.1 g3; omega) ha) (fun g3 => ?_)
        refine callBad must_no rfl ?_
        refine acallsD_of_rec hT mixed Tryz.func29 rfl (by kernel_rfl) (by kernel_rfl) rfl rfl rfl (plain_wrg) (Nat.le_of_ble_eq_true rfl) ?_
        exact ⟨rfl, [.row [i64 0, i64 0, i64 0, u64n 0, bo false], .row [i64 4], .dead], _, ⟨⟨_, rfl, rfl⟩, ⟨.inl rfl, .inl rfl, .inr rfl, True.intro⟩, Nat.le_of_ble_eq_true rfl, rfl⟩, True.intro, [], .tup [(DdV.mk 0 0 0 0 false).a, i64 4], ⟨⟨_, rfl, rfl⟩, True.intro, Nat.zero_le _, rfl⟩, rfl, ⟨_, rfl⟩⟩
theorem undeed_ok (s : ByteArray) (hs : s.size ≤ 1000000) : ACalls Tryz.prog 21 [str s] [] (UdR (undP s)) := by
  by_cases h0 : s.size = 0
  · have := undeed_nil s h0
    unfold undP
    rw [if_pos h0]
    exact this
  · by_cases h4 : octB s 0 = 4
    · exact undeed_make s h0 h4 hs
    · exact undeed_give s h0 h4 hs
end Go.Proofs.YtkbpddejafdmdaaGreat.A
