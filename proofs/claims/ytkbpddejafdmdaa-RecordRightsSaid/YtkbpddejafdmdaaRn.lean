/- record: RecordCommits. No condition. -/
import Derived.Test.YtkbpddejafdmdaaRm
import Derived.Test.YtkbpddejafdmdaaVd
import Derived.Test.YtkbpddejafdmdaaAm19
import Derived.Test.YtkbpddejafdmdaaOs
namespace Go.Proofs.Ytkbpddejafdmdaa.A
open Go
set_option linter.unusedVariables false
set_option linter.unusedSimpArgs false
set_option maxRecDepth 100000
set_option pp.maxSteps 400

def ucA (o : Option (Nat × List Wt)) : AV := match o with
  | some (q, L) => .tup [i64 (q : Nat), wtV L, i64 0]
  | none => .tup [i64 0, nilS, i64 4]
theorem uncommitU_ok (s : ByteArray) (hs : s.size ≤ 1000000) : ACalls Try.prog 19 [str s] [] (Ret (ucA (uncP s))) := by
  have hc := uncommit_ok s hs
  cases hu : uncP s with
  | none =>
    rw [hu] at hc
    refine acalls_of_awp hT mixed Try.func19 rfl (by kernel_rfl) (by kernel_rfl) (Nat.le_of_ble_eq_true rfl) ?_
    refine callS hc [] True.intro rfl ?_
    rintro E G ⟨rfl, q, rfl | ⟨L, rfl⟩⟩ _
    · refine ⟨_, _, rfl, rfl, ?_⟩
      exact ⟨rfl, [], (ucA none), ⟨⟨_, rfl, rfl⟩, True.intro, Nat.zero_le _, rfl⟩, rfl, rfl⟩
    · refine ⟨_, _, rfl, rfl, ?_⟩
      exact ⟨rfl, [], (ucA none), ⟨⟨_, rfl, rfl⟩, True.intro, Nat.zero_le _, rfl⟩, rfl, rfl⟩
  | some qL =>
    obtain ⟨q, L⟩ := qL
    rw [hu] at hc
    refine acalls_of_awp hT mixed Try.func19 rfl (by kernel_rfl) (by kernel_rfl) (Nat.le_of_ble_eq_true rfl) ?_
    refine callS hc [] True.intro rfl ?_
    rintro E G ⟨rfl, rfl⟩ _
    refine ⟨_, _, rfl, rfl, ?_⟩
    exact ⟨rfl, [], (ucA (some (q, L))), ⟨⟨_, rfl, rfl⟩, True.intro, Nat.zero_le _, rfl⟩, rfl, rfl⟩
theorem okW_can {w : Wt} (h : okW w = true) (hg : w.g = true) : w.n = false ∧ w.t = nilT ∧ w.b = 0 := by
  unfold okW at h
  simp only [Bool.and_eq_true, hg, Bool.true_and, Bool.not_not] at h
  have hz := h.2
  unfold zeroV at hz
  simp only [Bool.and_eq_true, beq_iff_eq] at hz
  exact ⟨hz.1, strEq_iff.1 hz.2.1, by have := hz.2.2.1; omega⟩
theorem wr_inv {w : Wt} (h : okW w = true) (hb : w.b < 18446744073709551616) (t : ByteArray) : wrP (BA (wtB w) ++ t) = some (w, (wtB w).length) := by
  have hk := okW_key h
  have hv := vB_size h
  have hbN := bN_le w.g
  have hp := beg_inv (l := [⟨bN w.g, emp⟩, ⟨0, w.k⟩, ⟨0, vB w.n w.t w.b w.g⟩].map Pi.it) (fun x hx => by
      simp only [List.map_cons, List.map_nil, List.mem_cons, List.not_mem_nil, or_false] at hx
      rcases hx with rfl | rfl | rfl
      · exact wi_pi (by omega) (by decide)
      · exact wi_pi (by decide) (by omega)
      · exact wi_pi (by decide) (by omega)) (print_btt (g := w.g) (k := w.k) (v := vB w.n w.t w.b w.g) (by omega) (by omega)) t
  unfold wrP
  rw [show BA (wtB w) = BA (bN w.g :: (numN w.k.size ++ byL w.k ++ (numN (vB w.n w.t w.b w.g).size ++ byL (vB w.n w.t w.b w.g)))) from rfl, hp]
  show (if bN w.g ≤ 1 then _ else none) = _
  rw [if_pos hbN]
  have hr := okW_right h
  have hcan := okW_can h
  obtain ⟨k, g, n, tt, b⟩ := w
  dsimp only at hb hr hcan ⊢
  cases g with
  | true =>
    obtain ⟨rfl, rfl, rfl⟩ := hcan rfl
    show (if bN true = 1 then (if (vB false nilT 0 true).size = 0 then some (Wt.mk k true false nilT 0, _) else none) else _) = _
    rw [if_pos (show bN true = 1 from rfl), if_pos (show (vB false nilT 0 true).size = 0 from rfl)]
    rfl
  | false =>
    show (if bN false = 1 then _ else if (upV (vB n tt b false)).2.2.2 = 0 then some (Wt.mk k false (upV (vB n tt b false)).1 (upV (vB n tt b false)).2.1 (upV (vB n tt b false)).2.2.1, _) else none) = _
    rw [show vB n tt b false = packV n tt b from rfl, up_pack hb hr, if_neg (by decide), if_pos rfl]
    rfl
theorem many_inv : ∀ (L : List Wt), (∀ w ∈ L, okW w = true ∧ w.b < 18446744073709551616) → ∀ n, (BA (L.flatMap wtB)).size ≤ n → manyP wrP n (BA (L.flatMap wtB)) = some L
  | [], _, n, _ => manyP_end (by rw [BA_size]; rfl)
  | w :: L, h, n, hn => by
    have hw := h w (List.mem_cons_self ..)
    rw [BA_size, List.flatMap_cons, List.length_append] at hn
    have hpos : 0 < (wtB w).length := by unfold wtB; simp
    obtain ⟨n, rfl⟩ : ∃ m, n = m + 1 := ⟨n - 1, by omega⟩
    rw [List.flatMap_cons, ← BA_append, manyP_some (by rw [size_append, BA_size, BA_size]; omega) (wr_inv hw.1 hw.2 _), rest_append, many_inv L (fun x hx => h x (List.mem_cons_of_mem _ hx)) n (by rw [BA_size]; omega)]
    rfl
theorem hd_inv {kind q : Nat} (hk : kind ≤ 255) (hq : q ≤ 1073741824) (t : ByteArray) : hdP kind (BA (kind :: numN q) ++ t) = some (q, (kind :: numN q).length) := by
  have hb := beg_inv (l := [itN kind, itN q]) (fun x hx => by
      simp only [List.mem_cons, List.not_mem_nil, or_false] at hx
      rcases hx with rfl | rfl
      · exact wi_itN (by omega)
      · exact wi_itN (by omega)) (print_bn q hk) t
  unfold hdP
  rw [hb]
  show (if kind = kind ∧ q ≤ 1073741824 then some (q, (kind :: numN q).length) else none) = _
  rw [if_pos ⟨rfl, hq⟩]
theorem unc_inv {q : Nat} {L : List Wt} (h1 : 1 ≤ q) (h2 : q ≤ 1073741824) (hm : mayW L = true) (hb : ∀ w ∈ L, w.b < 18446744073709551616) : uncP (BA (cmB q L)) = some (q, L) := by
  obtain ⟨hl, hok⟩ := may_all hm
  have e : BA (cmB q L) = BA (1 :: numN q) ++ BA (L.flatMap wtB) := by rw [BA_append]; rfl
  unfold uncP
  rw [e, hd_inv (by decide) h2]
  dsimp only
  rw [rest_append, many_inv L (fun w hw => ⟨hok w hw, hb w hw⟩) _ (Nat.le_refl _)]
  show (if 1 ≤ q ∧ mayW L = true then some (q, L) else none) = _
  rw [if_pos ⟨h1, hm⟩]
theorem commits_no (q : Int) (L : List Wt) (hl : L.length < 9223372036854775807) (hb : ∀ w ∈ L, w.b < 18446744073709551616) (z : ByteArray) (hz : strEq z ⟨#[]⟩ = true) (h1 : ACalls Try.prog 17 [i64 q, wtV L] [] (Ret (.tup [str z, i64 1]))) (h : ¬ (1 ≤ q ∧ q ≤ 1073741824 ∧ mayW L = true)) : ACalls Try.prog 5 [i64 q, wtV L] [] (Ret (bo true)) := by
  have hm := rmay_ok L hl hb
  refine acalls_of_awp hT mixed Try.func5 rfl (by kernel_rfl) (by kernel_rfl) (Nat.le_of_ble_eq_true rfl) ?_
  refine callP awakeR_ok rfl rfl ?_
  refine forkD (fun _ => end0 rfl rfl rfl rfl) (fun _ => ?_)
  refine loopI (α := { j : Nat // j ≤ L.length }) (fun x => [(0, i64 q), (1, wtV L), (5, i64 (x.val : Nat))]) (fun _ => []) (fun x => L.length - x.val) ⟨0, Nat.zero_le _⟩ [] ⟨⟨rfl, rfl, rfl, True.intro⟩, True.intro, rfl, rfl, rfl⟩ ?_
  rintro ⟨j, hj⟩ K hK
  have hinc : wrp .i64 ((j : Int) + 1) = ((j + 1 : Nat) : Int) := by rw [wrpE, wi64]; omega
  refine forkD (fun h => ?_) (fun _ => ?_)
  · have h' : j < L.length := by have : (j : Int) < (L.length : Int) := h; omega
    obtain ⟨w, hw⟩ : ∃ w, L[j]? = some w := ⟨_, List.getElem?_eq_getElem h'⟩
    have hik : (0 : Int) ≤ (j : Nat) ∧ ((j : Nat) : Int) < (L.length : Nat) := by omega
    have c0 := cellF0 wtC_len hw (a := str w.k) rfl
    have c3 := cellF wtC_len hw 3 (a := str w.t) rfl
    have c3' : nth (List.drop 1 (List.drop 2 (List.drop ((j : Int).toNat * 5) (flat wtC L)))) 0 = some (str w.t) := by rw [List.drop_drop]; exact c3
    refine Ob.intro hik ?_
    refine optK_intro c0 ?_
    refine forkD (fun _ => end0 rfl rfl rfl rfl) (fun _ => ?_)
    refine Ob.intro hik ?_
    refine optK_intro c3' ?_
    refine forkD (fun _ => end0 rfl rfl rfl rfl) (fun _ => ?_)
    refine hK ⟨j + 1, h'⟩ [] _ (show L.length - j = L.length - (j + 1) + 1 by omega) ⟨⟨rfl, rfl, congrArg i64 hinc, True.intro⟩, True.intro, rfl, rfl, rfl⟩
  · refine callP h1 rfl rfl ?_
    refine forkD (fun _ => ?_) (fun g1 => ?_)
    · refine fork (fun _ => ?_) (fun g => absurd hz (by rw [g]; decide))
      refine end0 rfl rfl rfl rfl
    refine forkD (fun _ => ?_) (fun g2 => ?_)
    · refine fork (fun _ => ?_) (fun g => absurd hz (by rw [g]; decide))
      refine end0 rfl rfl rfl rfl
    have h3 : mayW L = false := by
      cases hq : mayW L
      · rfl
      · exact absurd ⟨by have : ¬ q < 1 := g1; omega, by have : ¬ q > 1073741824 := g2; omega, hq⟩ h
    rw [h3] at hm
    refine callP hm rfl rfl ?_
    refine fork (fun _ => ?_) (fun g => absurd hz (by rw [g]; decide))
    refine end0 rfl rfl rfl rfl
theorem commits_yes (q : Nat) (L : List Wt) (X : ByteArray) (hq : 1 ≤ q ∧ q ≤ 1073741824) (hl : L.length < 9223372036854775807) (hm : ACalls Try.prog 18 [wtV L] [] (Ret (bo true))) (h1 : ACalls Try.prog 17 [i64 (q : Nat), wtV L] [] (Ret (.tup [str X, i64 0])))
    (h2 : ACalls Try.prog 19 [str X] [] (Ret (.tup [i64 (q : Nat), wtV L, i64 0]))) (h3 : ACalls Try.prog 20 [i64 (q : Nat), wtV L] [] (Ret (str X))) : ACalls Try.prog 5 [i64 (q : Nat), wtV L] [] (Ret (bo true)) := by
  have hsame := wsame_ok L hl
  refine acalls_of_awp hT mixed Try.func5 rfl (by kernel_rfl) (by kernel_rfl) (Nat.le_of_ble_eq_true rfl) ?_
  refine callP awakeR_ok rfl rfl ?_
  refine forkD (fun _ => end0 rfl rfl rfl rfl) (fun _ => ?_)
  refine loopI (α := { j : Nat // j ≤ L.length }) (fun x => [(0, i64 q), (1, wtV L), (5, i64 (x.val : Nat))]) (fun _ => []) (fun x => L.length - x.val) ⟨0, Nat.zero_le _⟩ [] ⟨⟨rfl, rfl, rfl, True.intro⟩, True.intro, rfl, rfl, rfl⟩ ?_
  rintro ⟨j, hj⟩ K hK
  have hinc : wrp .i64 ((j : Int) + 1) = ((j + 1 : Nat) : Int) := by rw [wrpE, wi64]; omega
  refine forkD (fun h => ?_) (fun _ => ?_)
  · have h' : j < L.length := by have : (j : Int) < (L.length : Int) := h; omega
    obtain ⟨w, hw⟩ : ∃ w, L[j]? = some w := ⟨_, List.getElem?_eq_getElem h'⟩
    have hik : (0 : Int) ≤ (j : Nat) ∧ ((j : Nat) : Int) < (L.length : Nat) := by omega
    have c0 := cellF0 wtC_len hw (a := str w.k) rfl
    have c3 := cellF wtC_len hw 3 (a := str w.t) rfl
    have c3' : nth (List.drop 1 (List.drop 2 (List.drop ((j : Int).toNat * 5) (flat wtC L)))) 0 = some (str w.t) := by rw [List.drop_drop]; exact c3
    refine Ob.intro hik ?_
    refine optK_intro c0 ?_
    refine forkD (fun _ => end0 rfl rfl rfl rfl) (fun _ => ?_)
    refine Ob.intro hik ?_
    refine optK_intro c3' ?_
    refine forkD (fun _ => end0 rfl rfl rfl rfl) (fun _ => ?_)
    refine hK ⟨j + 1, h'⟩ [] _ (show L.length - j = L.length - (j + 1) + 1 by omega) ⟨⟨rfl, rfl, congrArg i64 hinc, True.intro⟩, True.intro, rfl, rfl, rfl⟩
  · refine callP h1 rfl rfl ?_
    refine forkD (fun g => absurd (show ((q : Nat) : Int) < 1 from g) (by omega)) (fun _ => ?_)
    refine forkD (fun g => absurd (show ((q : Nat) : Int) > 1073741824 from g) (by omega)) (fun _ => ?_)
    refine callP hm rfl rfl ?_
    refine callP h2 rfl rfl ?_
    refine callP h3 rfl rfl ?_
    refine fork (fun _ => ?_) (fun g => absurd (strEq_iff.2 rfl) (by rw [g]; decide))
    refine fork (fun _ => ?_) (fun g => absurd g (by simp))
    refine callP hsame rfl rfl ?_
    refine end0 rfl rfl rfl rfl
theorem recordCommits_ok (q : Int) (L : List Wt) (hl : L.length < 9223372036854775807) (hb : ∀ w ∈ L, w.b < 18446744073709551616) : ACalls Try.prog 5 [i64 q, wtV L] [] (Ret (bo true)) := by
  by_cases h : 1 ≤ q ∧ q ≤ 1073741824 ∧ mayW L = true
  · obtain ⟨q, rfl⟩ : ∃ n : Nat, q = (n : Int) := ⟨q.toNat, by omega⟩
    obtain ⟨h1, h2, h3⟩ := h
    have hr := rmay_ok L hl hb
    rw [h3] at hr
    obtain ⟨hl2, hok⟩ := may_all h3
    have hu := uncommitU_ok (BA (cmB q L)) (by rw [BA_size]; have := cmB_len (q := q) (by omega) hok; omega)
    rw [unc_inv (by omega) (by omega) h3 hb] at hu
    exact commits_yes q L _ (by omega) hl hr (commit_ok q L (by omega) (by omega) h3 hb) hu (rcommit_ok q L (by omega) h3 hb (fun w hw => by have := rightV_size (okW_right (hok w hw)); omega))
  · exact commits_no q L hl hb emp (strEq_iff.2 rfl) (commit_no q L hl h) h
theorem wf_wts {l : List AV} (h : Wf (.slice (.strct (.cons .str (.cons .bool (.cons (.strct (.cons .bool (.cons .str (.cons (.int .u64) .none)))) .none))))) l) : ∃ L : List Wt, l = [wtV L] ∧ (∀ w ∈ L, w.b < 18446744073709551616) ∧ L.length ≤ 9223372036854775807 := by
  refine wf_flatR (f := wtC) (Q := fun w => w.b < 18446744073709551616) (fun r hr => ?_) h
  obtain ⟨_, _, rfl, ⟨k, rfl, _⟩, _, _, rfl, ⟨g, rfl⟩, _, _, rfl, hv, rfl⟩ := hr
  obtain ⟨_, _, rfl, ⟨n, rfl⟩, _, _, rfl, ⟨t, rfl, _⟩, _, _, rfl, hb, rfl⟩ := hv
  obtain ⟨b, rfl, hbb⟩ := wf_nat hb
  exact ⟨⟨k, g, n, t, b⟩, rfl, hbb⟩
theorem recordCommits_big (q : Int) (L : List Wt) (h : 30 < L.length) : ACalls Try.prog 5 [i64 q, wtV L] [] (Ret (bo true)) := by
  refine acalls_of_awp hT mixed Try.func5 rfl (by kernel_rfl) (by kernel_rfl) (Nat.le_of_ble_eq_true rfl) ?_
  refine callP awakeR_ok rfl rfl ?_
  refine forkD (fun _ => end0 rfl rfl rfl rfl) (fun g => absurd (show (L.length : Int) > 30 by omega) g)
theorem recordCommits_law (l0 : List AV) (w0 : Wf (.int .i64) l0) (l1 : List AV) (w1 : Wf (.slice (.strct (.cons .str (.cons .bool (.cons (.strct (.cons .bool (.cons .str (.cons (.int .u64) .none)))) .none))))) l1) : ACalls Try.prog 5 [argA (.int .i64) l0, argA (.slice (.strct (.cons .str (.cons .bool (.cons (.strct (.cons .bool (.cons .str (.cons (.int .u64) .none)))) .none))))) l1] [] (Ret (.sc (.bool true))) := by
  obtain ⟨q, rfl, _⟩ := w0
  obtain ⟨L, rfl, hb, hL⟩ := wf_wts w1
  by_cases h : 30 < L.length
  · exact recordCommits_big q L h
  · exact recordCommits_ok q L (by omega) hb
end Go.Proofs.Ytkbpddejafdmdaa.A
