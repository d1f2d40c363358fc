/- label: the laws LabelPacks, LabelOrders. No condition. -/
import Derived.Test.YtmfifbclldnpkaaLl
namespace Go.Proofs.Ytmfifbclldnpkaa.A
open Go
set_option linter.unusedVariables false
set_option maxRecDepth 100000
set_option pp.maxSteps 1500

theorem awakeL_raw (p : ByteArray) (hp : p.size = 25) (cj : ACalls Try.prog 22 [us [1, 3], us [2, 3]] [] (Ret (.tup [us [1, 2, 3], i64 0]))) (cp : ACalls Try.prog 17 [us [1, 2, 3]] [] (Ret (.tup [str p, i64 0]))) : ACalls Try.prog 8 [] [] (Ret (bo true)) := by
  refine acalls_of_awp hT mixed Try.func8 rfl (by kernel_rfl) (by kernel_rfl) (Nat.le_of_ble_eq_true rfl) ?_
  refine callCut (H := [.row [u64n 1, u64n 3], .row [u64n 2, u64n 3]]) (bs := [us [1, 3], us [2, 3]]) 0 rfl ?_
  refine callS cj [] True.intro rfl ?_
  rintro E G ⟨rfl, rfl⟩ _
  refine ⟨_, _, rfl, rfl, ?_⟩
  refine callP cp rfl rfl ?_
  refine fork (fun h => ?_) (fun h => ?_)
  · exact ⟨rfl, [], bo true, ⟨⟨_, rfl, rfl⟩, True.intro, Nat.le_refl _, rfl⟩, rfl, rfl⟩
  · exfalso
    have : (p.size : Int) ≠ 25 := beq_eq_false_iff_ne.1 h
    omega
theorem packB_size {l : List Nat} : (packB l).size = 1 + 8 * l.length := by
  unfold packB
  rw [BA_size]
  have := pkN_len l l.length (Nat.le_refl _)
  unfold pkN at this
  rw [List.take_length] at this
  exact this
theorem awakeL_ok : ACalls Try.prog 8 [] [] (Ret (bo true)) :=
  awakeL_raw (packB [1, 2, 3]) packB_size (join_ok [1, 3] [2, 3] (by decide) (by decide)) (lpack_ok [1, 2, 3] (by decide))
theorem farL_nil (a : List Nat) : ACalls Try.prog 9 [us a, nilS] [] (Ret (bo (decide (60 < a.length)))) := by
  refine acalls_of_awp hT mixed Try.func9 rfl (by kernel_rfl) (by kernel_rfl) (Nat.le_of_ble_eq_true rfl) ?_
  refine forkD (fun h => ?_) (fun h => ?_)
  · have h' : 60 < a.length := by have : (a.length : Int) > 60 := h; omega
    refine end0 rfl rfl rfl (congrArg bo (decide_eq_true h').symm)
  · have h' : ¬ 60 < a.length := by have : ¬ (a.length : Int) > 60 := h; omega
    refine end0 rfl rfl rfl (congrArg bo (decide_eq_false h').symm)
theorem farL_ok (a b : List Nat) : ACalls Try.prog 9 [us a, us b] [] (Ret (bo (decide (60 < a.length ∨ 60 < b.length)))) := by
  refine acalls_of_awp hT mixed Try.func9 rfl (by kernel_rfl) (by kernel_rfl) (Nat.le_of_ble_eq_true rfl) ?_
  refine forkD (fun h => ?_) (fun h => ?_)
  · have h' : 60 < a.length := by have : (a.length : Int) > 60 := h; omega
    refine end0 rfl rfl rfl (congrArg bo (decide_eq_true (.inl h')).symm)
  · have h' : ¬ 60 < a.length := by have : ¬ (a.length : Int) > 60 := h; omega
    refine forkD (fun h => ?_) (fun h => ?_)
    · have h2 : 60 < b.length := by have : (b.length : Int) > 60 := h; omega
      refine end0 rfl rfl rfl (congrArg bo (decide_eq_true (.inr h2)).symm)
    · have h2 : ¬ 60 < b.length := by have : ¬ (b.length : Int) > 60 := h; omega
      refine end0 rfl rfl rfl (congrArg bo (decide_eq_false (fun hh => hh.elim h' h2)).symm)
/-! ### Packs -/
theorem flat_at : ∀ {l : List Nat} {k j x : Nat}, l[k]? = some x → j < 8 → (l.flatMap be8)[8 * k + j]? = (be8 x)[j]?
  | [], k, j, x, h, _ => by simp at h
  | y :: l, 0, j, x, h, hj => by
    simp at h
    subst h
    rw [List.flatMap_cons, List.getElem?_append_left (by show _ < (beN y 8).length; rw [beN_len]; omega)]
    simp
  | y :: l, k + 1, j, x, h, hj => by
    have hl : (be8 y).length = 8 := beN_len y 8
    rw [List.flatMap_cons, List.getElem?_append_right (by rw [hl]; omega), hl, show 8 * (k + 1) + j - 8 = 8 * k + j by omega]
    exact flat_at (by simpa using h) hj
theorem packN_at {l : List Nat} {k j x : Nat} (h : l[k]? = some x) (hj : j < 8) : (packN l)[1 + 8 * k + j]? = some (x / 256 ^ (7 - j) % 256) := by
  unfold packN
  rw [show 1 + 8 * k + j = (8 * k + j) + 1 by omega, List.getElem?_cons_succ, flat_at h hj, be8_at x j hj]
theorem packN_lt {l : List Nat} (h : l.length < 256) : ∀ x ∈ packN l, x < 256 := by
  intro x hx
  unfold packN at hx
  rcases List.mem_cons.1 hx with rfl | hx
  · exact h
  · obtain ⟨y, _, hy⟩ := List.mem_flatMap.1 hx
    exact beN_lt y 8 x hy
theorem atB_left {a b : ByteArray} {i : Nat} (h : i < a.size) : atB (a ++ b) i = atB a i := by
  rw [atB_eq, atB_eq, byL_append, List.getD_eq_getElem?_getD, List.getD_eq_getElem?_getD, List.getElem?_append_left (by rw [byL_len]; exact h)]
theorem atB_BA {l : List Nat} (h : ∀ x ∈ l, x < 256) (i : Nat) : atB (BA l) i = l.getD i 0 := by rw [atB_eq, byL_BA h]
theorem size_append (a b : ByteArray) : (a ++ b).size = a.size + b.size := by
  rw [← listB, appendB, List.length_append, listB, listB]
theorem tags_back {l : List Nat} (h6 : l.length ≤ 6) (h64 : ∀ x ∈ l, x < 18446744073709551616) (s : ByteArray) : ∀ k, k ≤ l.length → tagsB (packB l ++ s) k = l.take k
  | 0, _ => by simp [tagsB]
  | k + 1, hk => by
    obtain ⟨x, hx⟩ : ∃ x, l[k]? = some x := ⟨_, List.getElem?_eq_getElem (by omega)⟩
    rw [tagsB, tags_back h6 h64 s k (by omega), take_snocA hx]
    congr 2
    have hv := valB_beN (s := packB l ++ s) (p := 1 + 8 * k) (t := x) (n := 8) (fun j hj => by
      have hlt : 1 + 8 * k + j < (packB l).size := by rw [packB_size]; omega
      rw [atB_left hlt]
      unfold packB
      rw [atB_BA (packN_lt (by omega)), List.getD_eq_getElem?_getD, packN_at hx hj]
      rfl) 8 (Nat.le_refl _)
    rw [hv, Nat.sub_self, Nat.pow_zero, Nat.div_one]
    exact Nat.mod_eq_of_lt (h64 x (List.mem_of_getElem? hx))
theorem unp_pack {l : List Nat} (hr : rightB l = true) (h64 : ∀ x ∈ l, x < 18446744073709551616) (s : ByteArray) : unpL (packB l ++ s) = ⟨l, ((packB l).size : Nat), 0⟩ := by
  have h6 := rightB_len hr
  have hsz := packB_size (l := l)
  have h0 : atB (packB l ++ s) 0 = l.length := by
    rw [atB_left (by omega)]
    unfold packB
    rw [atB_BA (packN_lt (by omega))]
    rfl
  have hall := size_append (packB l) s
  unfold unpL
  rw [h0, tags_back h6 h64 s l.length (Nat.le_refl _), List.take_length, if_neg (by omega), if_neg (by omega), if_neg (by omega), if_pos hr, hsz]
theorem packs_no (l a : List Nat) (n e : Int) (s z : ByteArray) (hs : s.size ≤ 200) (cf : ACalls Try.prog 9 [us l, nilS] [] (Ret (bo false))) (cp : ACalls Try.prog 17 [us l] [] (Ret (.tup [str z, i64 1]))) (hz : strEq z ⟨#[]⟩ = true) (cu : ACalls Try.prog 18 [str s] [] (Ret (.tup [us a, i64 n, i64 e]))) (cr : ACalls Try.prog 19 [str s] [] (Ret (.tup [us a, i64 n, i64 e]))) (cs : ACalls Try.prog 16 [us a, us a] [] (Ret (bo true))) (cq : ACalls Try.prog 13 [us l] [] (Ret (bo false))) : ACalls Try.prog 4 [us l, str s] [] (Ret (bo true)) := by
  refine acalls_of_awp hT mixed Try.func4 rfl (by kernel_rfl) (by kernel_rfl) (Nat.le_of_ble_eq_true rfl) ?_
  refine callP awakeL_ok rfl rfl ?_
  refine callP cf rfl rfl ?_
  refine forkD (fun g => absurd (show (200 : Int) < (s.size : Int) from g) (by omega)) (fun g => ?_)
  refine callP cp rfl rfl ?_
  refine callP cu rfl rfl ?_
  refine callP cr rfl rfl ?_
  refine callP cs rfl rfl ?_
  refine fork (fun g => absurd rfl (bne_iff_ne.1 g)) (fun g => ?_)
  refine fork (fun g => absurd rfl (bne_iff_ne.1 g)) (fun g => ?_)
  refine callP cq rfl rfl ?_
  refine fork (fun q => ?_) (fun q => absurd (show strEq z ⟨#[]⟩ = false from q) (by rw [hz]; decide))
  refine end0 rfl rfl rfl rfl
theorem packs_yes (l a : List Nat) (n e : Int) (s t : ByteArray) (hs : s.size ≤ 200) (ht : t.size ≤ 100) (cf : ACalls Try.prog 9 [us l, nilS] [] (Ret (bo false))) (cp : ACalls Try.prog 17 [us l] [] (Ret (.tup [str t, i64 0]))) (cu : ACalls Try.prog 18 [str s] [] (Ret (.tup [us a, i64 n, i64 e]))) (cr : ACalls Try.prog 19 [str s] [] (Ret (.tup [us a, i64 n, i64 e]))) (cs : ACalls Try.prog 16 [us a, us a] [] (Ret (bo true))) (cq : ACalls Try.prog 13 [us l] [] (Ret (bo true)))
    (cv : ACalls Try.prog 18 [str (t ++ s)] [] (Ret (.tup [us l, i64 (t.size : Nat), i64 0]))) (cw : ACalls Try.prog 20 [us l] [] (Ret (str t))) (ct : ACalls Try.prog 16 [us l, us l] [] (Ret (bo true))) : ACalls Try.prog 4 [us l, str s] [] (Ret (bo true)) := by
  refine acalls_of_awp hT mixed Try.func4 rfl (by kernel_rfl) (by kernel_rfl) (Nat.le_of_ble_eq_true rfl) ?_
  refine callP awakeL_ok rfl rfl ?_
  refine callP cf rfl rfl ?_
  refine forkD (fun g => absurd (show (200 : Int) < (s.size : Int) from g) (by omega)) (fun g => ?_)
  refine callP cp rfl rfl ?_
  refine callP cu rfl rfl ?_
  refine callP cr rfl rfl ?_
  refine callP cs rfl rfl ?_
  refine fork (fun g => absurd rfl (bne_iff_ne.1 g)) (fun g => ?_)
  refine fork (fun g => absurd rfl (bne_iff_ne.1 g)) (fun g => ?_)
  refine callP cq rfl rfl ?_
  refine Ob.intro (show t.size + s.size ≤ 9223372036854775807 by omega) ?_
  refine callP cv rfl rfl ?_
  refine callP cw rfl rfl ?_
  refine fork (fun q => ?_) (fun q => absurd (show strEq t t = false from q) (by rw [strEq_iff.2 rfl]; decide))
  refine callP ct rfl rfl ?_
  refine fork (fun q => ?_) (fun q => absurd rfl (beq_eq_false_iff_ne.1 q))
  refine end0 rfl rfl rfl rfl
theorem packs_far (l : List Nat) (s : ByteArray) (h : 60 < l.length ∨ 200 < s.size) : ACalls Try.prog 4 [us l, str s] [] (Ret (bo true)) := by
  have cf := farL_nil l
  by_cases hl : 60 < l.length
  · rw [decide_eq_true hl] at cf
    refine acalls_of_awp hT mixed Try.func4 rfl (by kernel_rfl) (by kernel_rfl) (Nat.le_of_ble_eq_true rfl) ?_
    refine callP awakeL_ok rfl rfl ?_
    refine callP cf rfl rfl ?_
    refine end0 rfl rfl rfl rfl
  · rw [decide_eq_false hl] at cf
    refine acalls_of_awp hT mixed Try.func4 rfl (by kernel_rfl) (by kernel_rfl) (Nat.le_of_ble_eq_true rfl) ?_
    refine callP awakeL_ok rfl rfl ?_
    refine callP cf rfl rfl ?_
    refine forkD (fun g => ?_) (fun g => absurd (show (200 : Int) < (s.size : Int) by omega) g)
    refine end0 rfl rfl rfl rfl
theorem labelPacks_law (l0 : List AV) (w0 : Wf (.slice (.int .u64)) l0) (l1 : List AV) (w1 : Wf .str l1) : ACalls Try.prog 4 [argA (.slice (.int .u64)) l0, argA .str l1] [] (Ret (.sc (.bool true))) := by
  obtain ⟨l, rfl, h64, hl⟩ := wf_nats w0
  obtain ⟨s, rfl, hs⟩ := w1
  show ACalls Try.prog 4 [us l, str s] [] (Ret (bo true))
  by_cases hf : 60 < l.length ∨ 200 < s.size
  · exact packs_far l s hf
  · have cf := farL_nil l
    rw [decide_eq_false (by omega)] at cf
    have cp := lpack_ok l (by omega)
    have cu := lunpack_ok s
    have cr := runpack_ok s (by omega)
    have cq := rright_ok l (by omega)
    have hal : (unpL s).l.length < 9223372036854775807 := by
      unfold unpL
      have := atB_lt s 0
      split
      · decide
      · split
        · decide
        · split
          · decide
          · split
            · rw [tagsB_len]
              omega
            · decide
    have cs := same_ok (unpL s).l (unpL s).l hal hal
    rw [decide_eq_true rfl] at cs
    have ct := same_ok l l (by omega) (by omega)
    rw [decide_eq_true rfl] at ct
    have cw := rpack_ok l (by omega) h64
    have cv := lunpack_ok (packB l ++ s)
    generalize unpL s = u at *
    obtain ⟨a, n, e⟩ := u
    cases hr : rightB l with
    | false =>
      rw [hr] at cq
      have hp : packP l = (emp, 1) := by unfold packP; rw [hr]; rfl
      rw [hp] at cp
      have hz : strEq emp ⟨#[]⟩ = true := strEq_iff.2 rfl
      generalize emp = z at *
      exact packs_no l a n e s z (by omega) cf cp hz cu cr cs cq
    | true =>
      rw [hr] at cq
      have hp : packP l = (packB l, 0) := by unfold packP; rw [if_pos hr]
      rw [hp] at cp
      rw [unp_pack hr h64 s] at cv
      have hsz := packB_size (l := l)
      have h6 := rightB_len hr
      generalize packB l = t at *
      exact packs_yes l a n e s t (by omega) (by omega) cf cp cu cr cs cq cv cw ct
end Go.Proofs.Ytmfifbclldnpkaa.A
