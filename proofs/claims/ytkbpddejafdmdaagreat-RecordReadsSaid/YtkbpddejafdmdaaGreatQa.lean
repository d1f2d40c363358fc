/- record: RecordReads. No condition. -/
import Derived.Test.YtkbpddejafdmdaaGreatRz
import Derived.Test.YtkbpddejafdmdaaGreatAm19
import Derived.Test.YtkbpddejafdmdaaGreatOs
namespace Go.Proofs.YtkbpddejafdmdaaGreat.A
open Go
set_option linter.unusedVariables false
set_option linter.unusedSimpArgs false
set_option maxRecDepth 100000
set_option pp.maxSteps 400

theorem sameNil_w : ACalls Tryz.prog 13 [nilS, nilS] [] (Ret (bo true)) := by
  have h := wsame_ok [] (by decide)
  refine h.weaken fun X vs hv => ?_
  match vs, hv with
  | [a, b], hv =>
    simp only [VL, and_true] at hv ⊢
    exact ⟨VR_nilView hv.1, VR_nilView hv.2⟩
theorem sameNil_e : ACalls Tryz.prog 14 [nilS, nilS] [] (Ret (bo true)) := by
  have h := esame_ok [] (by decide)
  refine h.weaken fun X vs hv => ?_
  match vs, hv with
  | [a, b], hv =>
    simp only [VL, and_true] at hv ⊢
    exact ⟨VR_nilView hv.1, VR_nilView hv.2⟩
theorem reads_long (s : ByteArray) (h : 2000 < s.size) : ACalls Tryz.prog 3 [str s] [] (Ret (bo true)) := by
  refine acalls_of_awp hT mixed Tryz.func3 rfl (by kernel_rfl) (by kernel_rfl) (Nat.le_of_ble_eq_true rfl) ?_
  refine callP awakeR_ok rfl rfl ?_
  refine forkD (fun _ => end0 rfl rfl rfl rfl) (fun g => absurd (show (s.size : Int) > 2000 by omega) g)
theorem reads_none (s : ByteArray) (hs : s.size ≤ 2000) (h1 : ACalls Tryz.prog 5 [str s] [] (Ret ((.tup [i64 0, nilS, i64 4])))) (h2 : ACalls Tryz.prog 6 [str s] [] (Ret ((.tup [i64 0, nilS, i64 4])))) (h3 : ACalls Tryz.prog 7 [str s] [] (Ret ((.tup [(DdV.mk 0 0 0 0 false).a, i64 4])))) (h4 : ACalls Tryz.prog 8 [str s] [] (Ret ((.tup [.sc (.pointer none), i64 4])))) (h5 : ACalls Tryz.prog 9 [str s] [] (Ret ((.tup [i64 0, nilS, bo false])))) (h6 : ACalls Tryz.prog 10 [str s] [] (Ret ((.tup [i64 0, nilS, bo false])))) (h7 : ACalls Tryz.prog 11 [str s] [] (Ret ((.tup [(DdV.mk 0 0 0 0 false).a, bo false])))) (h8 : ACalls Tryz.prog 12 [str s] [] (Ret ((.tup [.sc (.pointer none), bo false])))) : ACalls Tryz.prog 3 [str s] [] (Ret (bo true)) := by
  refine acalls_of_awp hT mixed Tryz.func3 rfl (by kernel_rfl) (by kernel_rfl) (Nat.le_of_ble_eq_true rfl) ?_
  refine callP awakeR_ok rfl rfl ?_
  refine forkD (fun g => absurd (show (s.size : Int) > 2000 from g) (by omega)) (fun _ => ?_)
  refine callP h1 rfl rfl ?_
  refine callP h2 rfl rfl ?_
  refine callP h3 rfl rfl ?_
  refine callP h4 rfl rfl ?_
  refine callP h5 rfl rfl ?_
  refine callP h6 rfl rfl ?_
  refine callP h7 rfl rfl ?_
  refine callP h8 rfl rfl ?_
  refine callP sameNil_w rfl rfl ?_
  refine callP sameNil_e rfl rfl ?_
  refine end0 rfl rfl rfl rfl
theorem reads_commit (s : ByteArray) (hs : s.size ≤ 2000) (q : Nat) (L : List Wt) (hL : L.length < 9223372036854775807) (h1 : ACalls Tryz.prog 5 [str s] [] (Ret (.tup [i64 (q : Nat), wtV L, i64 0]))) (h2 : ACalls Tryz.prog 6 [str s] [] (Ret ((.tup [i64 0, nilS, i64 4])))) (h3 : ACalls Tryz.prog 7 [str s] [] (Ret ((.tup [(DdV.mk 0 0 0 0 false).a, i64 4])))) (h4 : ACalls Tryz.prog 8 [str s] [] (Ret ((.tup [.sc (.pointer none), i64 4])))) (h5 : ACalls Tryz.prog 9 [str s] [] (Ret (.tup [i64 (q : Nat), wtV L, bo true]))) (h6 : ACalls Tryz.prog 10 [str s] [] (Ret ((.tup [i64 0, nilS, bo false])))) (h7 : ACalls Tryz.prog 11 [str s] [] (Ret ((.tup [(DdV.mk 0 0 0 0 false).a, bo false])))) (h8 : ACalls Tryz.prog 12 [str s] [] (Ret ((.tup [.sc (.pointer none), bo false]))))
    (h9 : ACalls Tryz.prog 15 [i64 (q : Nat), wtV L] [] (Ret (.tup [str s, i64 0]))) : ACalls Tryz.prog 3 [str s] [] (Ret (bo true)) := by
  have hsame := wsame_ok L hL
  refine acalls_of_awp hT mixed Tryz.func3 rfl (by kernel_rfl) (by kernel_rfl) (Nat.le_of_ble_eq_true rfl) ?_
  refine callP awakeR_ok rfl rfl ?_
  refine forkD (fun g => absurd (show (s.size : Int) > 2000 from g) (by omega)) (fun _ => ?_)
  refine callP h1 rfl rfl ?_
  refine callP h2 rfl rfl ?_
  refine callP h3 rfl rfl ?_
  refine callP h4 rfl rfl ?_
  refine callP h5 rfl rfl ?_
  refine callP h6 rfl rfl ?_
  refine callP h7 rfl rfl ?_
  refine callP h8 rfl rfl ?_
  refine fork (fun g => absurd rfl (bne_iff_ne.1 g)) (fun _ => ?_)
  refine callP hsame rfl rfl ?_
  refine callP sameNil_e rfl rfl ?_
  refine callP h9 rfl rfl ?_
  have hw1 : wrp .i64 ((0 : Int) + 1) = 1 := by rw [wrpE, wi64]; rfl
  refine fork (fun e => absurd (beq_iff_eq.1 e) (by rw [hw1]; decide)) (fun _ => ?_)
  refine fork (fun _ => ?_) (fun e => absurd hw1 (beq_eq_false_iff_ne.1 e))
  refine fork (fun _ => ?_) (fun e => absurd (strEq_iff.2 rfl) (by rw [e]; decide))
  refine end0 rfl rfl rfl rfl
theorem reads_base (s : ByteArray) (hs : s.size ≤ 2000) (q : Nat) (L : List En) (hL : L.length < 9223372036854775807) (h1 : ACalls Tryz.prog 5 [str s] [] (Ret ((.tup [i64 0, nilS, i64 4])))) (h2 : ACalls Tryz.prog 6 [str s] [] (Ret (.tup [i64 (q : Nat), enV L, i64 0]))) (h3 : ACalls Tryz.prog 7 [str s] [] (Ret ((.tup [(DdV.mk 0 0 0 0 false).a, i64 4])))) (h4 : ACalls Tryz.prog 8 [str s] [] (Ret ((.tup [.sc (.pointer none), i64 4])))) (h5 : ACalls Tryz.prog 9 [str s] [] (Ret ((.tup [i64 0, nilS, bo false])))) (h6 : ACalls Tryz.prog 10 [str s] [] (Ret (.tup [i64 (q : Nat), enV L, bo true]))) (h7 : ACalls Tryz.prog 11 [str s] [] (Ret ((.tup [(DdV.mk 0 0 0 0 false).a, bo false])))) (h8 : ACalls Tryz.prog 12 [str s] [] (Ret ((.tup [.sc (.pointer none), bo false]))))
    (h9 : ACalls Tryz.prog 16 [i64 (q : Nat), enV L] [] (Ret (.tup [str s, i64 0]))) : ACalls Tryz.prog 3 [str s] [] (Ret (bo true)) := by
  have hsame := esame_ok L hL
  refine acalls_of_awp hT mixed Tryz.func3 rfl (by kernel_rfl) (by kernel_rfl) (Nat.le_of_ble_eq_true rfl) ?_
  refine callP awakeR_ok rfl rfl ?_
  refine forkD (fun g => absurd (show (s.size : Int) > 2000 from g) (by omega)) (fun _ => ?_)
  refine callP h1 rfl rfl ?_
  refine callP h2 rfl rfl ?_
  refine callP h3 rfl rfl ?_
  refine callP h4 rfl rfl ?_
  refine callP h5 rfl rfl ?_
  refine callP h6 rfl rfl ?_
  refine callP h7 rfl rfl ?_
  refine callP h8 rfl rfl ?_
  refine callP sameNil_w rfl rfl ?_
  refine fork (fun g => absurd rfl (bne_iff_ne.1 g)) (fun _ => ?_)
  refine callP hsame rfl rfl ?_
  refine callP h9 rfl rfl ?_
  have hw1 : wrp .i64 ((0 : Int) + 1) = 1 := by rw [wrpE, wi64]; rfl
  refine fork (fun e => absurd (beq_iff_eq.1 e) (by rw [hw1]; decide)) (fun _ => ?_)
  refine fork (fun _ => ?_) (fun e => absurd hw1 (beq_eq_false_iff_ne.1 e))
  refine fork (fun _ => ?_) (fun e => absurd (strEq_iff.2 rfl) (by rw [e]; decide))
  refine end0 rfl rfl rfl rfl
theorem reads_deed (s : ByteArray) (hs : s.size ≤ 2000) (d : DdV) (h1 : ACalls Tryz.prog 5 [str s] [] (Ret ((.tup [i64 0, nilS, i64 4])))) (h2 : ACalls Tryz.prog 6 [str s] [] (Ret ((.tup [i64 0, nilS, i64 4])))) (h3 : ACalls Tryz.prog 7 [str s] [] (Ret (.tup [d.a, i64 0]))) (h4 : ACalls Tryz.prog 8 [str s] [] (Ret ((.tup [.sc (.pointer none), i64 4])))) (h5 : ACalls Tryz.prog 9 [str s] [] (Ret ((.tup [i64 0, nilS, bo false])))) (h6 : ACalls Tryz.prog 10 [str s] [] (Ret ((.tup [i64 0, nilS, bo false])))) (h7 : ACalls Tryz.prog 11 [str s] [] (Ret (.tup [d.a, bo true]))) (h8 : ACalls Tryz.prog 12 [str s] [] (Ret ((.tup [.sc (.pointer none), bo false]))))
    (h9 : ACalls Tryz.prog 17 [d.a] [] (Ret (.tup [str s, i64 0]))) : ACalls Tryz.prog 3 [str s] [] (Ret (bo true)) := by
  obtain ⟨k, w, t, g, m⟩ := d
  cases m <;>
  · refine acalls_of_awp hT mixed Tryz.func3 rfl (by kernel_rfl) (by kernel_rfl) (Nat.le_of_ble_eq_true rfl) ?_
    refine callP awakeR_ok rfl rfl ?_
    refine forkD (fun g => absurd (show (s.size : Int) > 2000 from g) (by omega)) (fun _ => ?_)
    refine callP h1 rfl rfl ?_
    refine callP h2 rfl rfl ?_
    refine callP h3 rfl rfl ?_
    refine callP h4 rfl rfl ?_
    refine callP h5 rfl rfl ?_
    refine callP h6 rfl rfl ?_
    refine callP h7 rfl rfl ?_
    refine callP h8 rfl rfl ?_
    refine callP sameNil_w rfl rfl ?_
    refine callP sameNil_e rfl rfl ?_
    refine fork (fun e => absurd e (by simp)) (fun _ => ?_)
    refine callP h9 rfl rfl ?_
    have hw1 : wrp .i64 ((0 : Int) + 1) = 1 := by rw [wrpE, wi64]; rfl
    refine fork (fun e => absurd (beq_iff_eq.1 e) (by rw [hw1]; decide)) (fun _ => ?_)
    refine fork (fun _ => ?_) (fun e => absurd hw1 (beq_eq_false_iff_ne.1 e))
    refine fork (fun _ => ?_) (fun e => absurd (strEq_iff.2 rfl) (by rw [e]; decide))
    refine end0 rfl rfl rfl rfl
theorem reads_rights (s : ByteArray) (hs : s.size ≤ 2000) (q : Nat) (g : Rg) (h1 : ACalls Tryz.prog 5 [str s] [] (Ret ((.tup [i64 0, nilS, i64 4])))) (h2 : ACalls Tryz.prog 6 [str s] [] (Ret ((.tup [i64 0, nilS, i64 4])))) (h3 : ACalls Tryz.prog 7 [str s] [] (Ret ((.tup [(DdV.mk 0 0 0 0 false).a, i64 4])))) (h4 : ACalls Tryz.prog 8 [str s] [] (RetH (.tup [.ptr 6 0, i64 0]) (unrH q g))) (h5 : ACalls Tryz.prog 9 [str s] [] (Ret ((.tup [i64 0, nilS, bo false])))) (h6 : ACalls Tryz.prog 10 [str s] [] (Ret ((.tup [i64 0, nilS, bo false])))) (h7 : ACalls Tryz.prog 11 [str s] [] (Ret ((.tup [(DdV.mk 0 0 0 0 false).a, bo false])))) (h8 : ACalls Tryz.prog 12 [str s] [] (RgR (some (q, g))))
    (h9 : ACalls Tryz.prog 18 [.ptr 1 0] (tabH q g) (RetH (.tup [str s, i64 0]) (tabH q g))) : ACalls Tryz.prog 3 [str s] [] (Ret (bo true)) := by
  refine acalls_of_awp hT mixed Tryz.func3 rfl (by kernel_rfl) (by kernel_rfl) (Nat.le_of_ble_eq_true rfl) ?_
  refine callP awakeR_ok rfl rfl ?_
  refine forkD (fun g => absurd (show (s.size : Int) > 2000 from g) (by omega)) (fun _ => ?_)
  refine callP h1 rfl rfl ?_
  refine callP h2 rfl rfl ?_
  refine callP h3 rfl rfl ?_
  refine callH h4 [] rfl True.intro rfl rfl (H' := [.row [i64 0, i64 0, i64 0, u64n 0, bo false], .dead, .dead, .dead, .dead, .dead, .row (rgC g), .row [i64 (q : Nat), .slc 6 0 g.length 2]]) (by simp only [unrH, renH, renO_rg]; rfl) ?_
  refine callP h5 rfl rfl ?_
  refine callP h6 rfl rfl ?_
  refine callP h7 rfl rfl ?_
  refine callS h8 [] True.intro rfl ?_
  rintro E G ⟨R, rfl, rfl⟩ _
  refine ⟨_, [.row [i64 0, i64 0, i64 0, u64n 0, bo false], .dead, .dead, .dead, .dead, .dead, .row (rgC g), .row [i64 (q : Nat), .slc 6 0 g.length 2], .row [i64 0, i64 0, i64 0, u64n 0, bo false], .dead, .dead, .row (flat rtC R), .row [i64 (g.length : Nat), i64 (q : Nat), .slc 11 0 R.length 3]], rfl, by simp only [renH, renO_rt]; rfl, ?_⟩
  refine callP sameNil_w rfl rfl ?_
  refine callP sameNil_e rfl rfl ?_
  refine callH (H := [.row [i64 0, i64 0, i64 0, u64n 0, bo false], .dead, .dead, .dead, .dead, .dead, .row (rgC g), .row [i64 (q : Nat), .slc 6 0 g.length 2], .row [i64 0, i64 0, i64 0, u64n 0, bo false], .dead, .dead, .row (flat rtC R), .row [i64 (g.length : Nat), i64 (q : Nat), .slc 11 0 R.length 3]]) h9 [6, 7] rfl ⟨.inl (by rw [renO_rg]; rfl), .inl rfl, True.intro⟩ rfl rfl (H' := [.row [i64 0, i64 0, i64 0, u64n 0, bo false], .dead, .dead, .dead, .dead, .dead, .row (rgC g), .row [i64 (q : Nat), .slc 6 0 g.length 2], .row [i64 0, i64 0, i64 0, u64n 0, bo false], .dead, .dead, .row (flat rtC R), .row [i64 (g.length : Nat), i64 (q : Nat), .slc 11 0 R.length 3]]) (by simp only [tabH, renH, renO_rg]; rfl) ?_
  have hw1 : wrp .i64 ((0 : Int) + 1) = 1 := by rw [wrpE, wi64]; rfl
  refine fork (fun e => absurd (beq_iff_eq.1 e) (by rw [hw1]; decide)) (fun _ => ?_)
  refine fork (fun _ => ?_) (fun e => absurd hw1 (beq_eq_false_iff_ne.1 e))
  refine fork (fun _ => ?_) (fun e => absurd (strEq_iff.2 rfl) (by rw [e]; decide))
  refine end0 rfl rfl rfl rfl
theorem recordReads_ok (s : ByteArray) (hs : s.size ≤ 2000) : ACalls Tryz.prog 3 [str s] [] (Ret (bo true)) := by
  have h1 := uncommitU_ok s (by omega)
  have h2 := unbaseU_ok s (by omega)
  have h3 := undeedU_ok s (by omega)
  have h4 := unrightsU_ok s (by omega)
  have h5 := runcommit_ok s (by omega)
  have h6 := runbase_ok s (by omega)
  have h7 := rundeed_ok s (by omega)
  have h8 := runrights_ok s (by omega)
  have hc : ∀ {q L}, uncP s = some (q, L) → octB s 0 = 1 := fun h => (unc_can h).2.2.2.2.2
  have hb : ∀ {q L}, unbP s = some (q, L) → octB s 0 = 2 := fun h => (unb_can h).2.2.2.1
  have hd : ∀ {d}, undP s = some d → octB s 0 = 4 ∨ octB s 0 = 3 := fun h => (und_can h).2.2
  have hr : ∀ {q g}, unrP s = some (q, g) → octB s 0 = 5 := fun h => (unr_can h).2.2
  cases e1 : uncP s with
  | some qL =>
    obtain ⟨q, L⟩ := qL
    have o1 := hc e1
    obtain ⟨f1, f2, f3, f4, f5, _⟩ := unc_can e1
    obtain ⟨hl, hok⟩ := may_all f4
    have n2 : unbP s = none := by cases e : unbP s with | none => rfl | some x => have := hb (q := x.1) (L := x.2) e; omega
    have n3 : undP s = none := by cases e : undP s with | none => rfl | some x => have := hd e; omega
    have n4 : unrP s = none := by cases e : unrP s with | none => rfl | some x => have := hr (q := x.1) (g := x.2) e; omega
    rw [e1] at h1 h5; rw [n2] at h2 h6; rw [n3] at h3 h7; rw [n4] at h4 h8
    have h9 := commit_ok q L f2 f3 f4 f5
    rw [f1] at h9
    exact reads_commit s hs q L (by omega) h1 h2 h3 h4 h5 h6 h7 h8 h9
  | none =>
    rw [e1] at h1 h5
    cases e2 : unbP s with
    | some qL =>
      obtain ⟨q, L⟩ := qL
      have o2 := hb e2
      obtain ⟨f1, f2, f3, _, f5⟩ := unb_can e2
      have n3 : undP s = none := by cases e : undP s with | none => rfl | some x => have := hd e; omega
      have n4 : unrP s = none := by cases e : unrP s with | none => rfl | some x => have := hr (q := x.1) (g := x.2) e; omega
      rw [e2] at h2 h6; rw [n3] at h3 h7; rw [n4] at h4 h8
      have h9 := base_ok q L (by omega) f2 f3
      rw [f1] at h9
      exact reads_base s hs q L (by omega) h1 h2 h3 h4 h5 h6 h7 h8 h9
    | none =>
      rw [e2] at h2 h6
      cases e3 : undP s with
      | some d =>
        have o3 := hd e3
        obtain ⟨f1, f2, _⟩ := und_can e3
        have n4 : unrP s = none := by cases e : unrP s with | none => rfl | some x => have := hr (q := x.1) (g := x.2) e; omega
        rw [e3] at h3 h7; rw [n4] at h4 h8
        have h9 := deed_ok d f2
        rw [f1] at h9
        exact reads_deed s hs d.v h1 h2 h3 h4 h5 h6 h7 h8 h9
      | none =>
        rw [e3] at h3 h7
        cases e4 : unrP s with
        | some qg =>
          obtain ⟨q, g⟩ := qg
          obtain ⟨f1, f2, _⟩ := unr_can e4
          rw [e4] at h4 h8
          obtain ⟨l1, l2, _, _, l5, l6, l7⟩ := f2
          rw [plus_len] at l1 l2
          rw [Int.toNat_natCast] at l6 l7
          have h16 : 2 ^ q ≤ 2 ^ 16 := Nat.pow_le_pow_right (by decide) (by omega)
          have hg : RgOk g := ⟨l2, fun r hr => by
            have a := l6 r.1 (List.mem_map.2 ⟨r, hr, rfl⟩)
            have b := l7 r.2 (List.mem_map.2 ⟨r, hr, rfl⟩)
            omega⟩
          have h9 := rights_ok q g hg l1 (by omega)
          rw [f1] at h9
          exact reads_rights s hs q g h1 h2 h3 h4 h5 h6 h7 h8 h9
        | none =>
          rw [e4] at h4 h8
          exact reads_none s hs h1 h2 h3 h4 h5 h6 h7 h8
theorem recordReads_law (l0 : List AV) (w0 : Wf .str l0) : ACalls Tryz.prog 3 [argA .str l0] [] (Ret (.sc (.bool true))) := by
  obtain ⟨s, rfl, _⟩ := w0
  by_cases h : s.size ≤ 2000
  · exact recordReads_ok s h
  · exact reads_long s (by omega)
end Go.Proofs.YtkbpddejafdmdaaGreat.A
