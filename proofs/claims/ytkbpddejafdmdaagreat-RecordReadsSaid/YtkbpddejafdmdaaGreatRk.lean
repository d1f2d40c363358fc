/- record: Commit. No condition. -/
import Derived.Test.YtkbpddejafdmdaaGreatRj
import Derived.Test.YtkbpddejafdmdaaGreatWx
namespace Go.Proofs.YtkbpddejafdmdaaGreat.A
open Go
set_option linter.unusedVariables false
set_option linter.unusedSimpArgs false
set_option maxRecDepth 100000
set_option pp.maxSteps 400

def vB (n : Bool) (t : ByteArray) (b : Nat) (g : Bool) : ByteArray := if g = true then emp else packV n t b
theorem vpack_q {n : Bool} {t : ByteArray} {b : Nat} (hb : b < 18446744073709551616) (h : rightV n t b = true) : ACalls Tryz.prog 56 [.agg [bo n, str t, u64n b]] [] (Ret (.tup [str (packV n t b), i64 0])) := by
  have := pack_ok n t b hb
  rw [if_pos h] at this
  exact this
theorem bytesR_ok (n : Bool) (t : ByteArray) (b : Nat) (g : Bool) (hb : b < 18446744073709551616) (h : g = false → rightV n t b = true) : ACalls Tryz.prog 35 [.agg [bo n, str t, u64n b], bo g] [] (Ret (str (vB n t b g))) := by
  cases g with
  | true =>
    refine acalls_of_awp hT mixed Tryz.func35 rfl (by kernel_rfl) (by kernel_rfl) (Nat.le_of_ble_eq_true rfl) ?_
    refine end0 rfl rfl rfl rfl
  | false =>
    have hp := vpack_q hb (h rfl)
    refine acalls_of_awp hT mixed Tryz.func35 rfl (by kernel_rfl) (by kernel_rfl) (Nat.le_of_ble_eq_true rfl) ?_
    refine callP hp rfl rfl ?_
    refine callP must_yes rfl rfl ?_
    refine end0 rfl rfl rfl rfl
theorem num_w {n : Nat} (h : n < 9223372036854775808) : wrp .u64 ((n : Nat) : Int) = ((n : Nat) : Int) := by rw [wrpE, wu64]; omega
/-- What a write is told as. -/
def wtB (w : Wt) : List Nat := bN w.g :: (numN w.k.size ++ byL w.k ++ (numN (vB w.n w.t w.b w.g).size ++ byL (vB w.n w.t w.b w.g)))
theorem packV_size {n : Bool} {t : ByteArray} {b : Nat} (h : rightV n t b = true) : (packV n t b).size ≤ 65 := by
  cases n with
  | true =>
    show (ByteArray.mk #[1] ++ (⟨(keyL (placeB b)).toArray⟩ : ByteArray)).size ≤ 65
    rw [size_append]
    show 1 + 8 ≤ 65
    decide
  | false =>
    have := right_text h
    show (ByteArray.mk #[0] ++ t).size ≤ 65
    rw [size_append]
    show 1 + t.size ≤ 65
    omega
theorem vB_size {w : Wt} (h : okW w = true) : (vB w.n w.t w.b w.g).size ≤ 65 := by
  unfold vB
  split
  · show 0 ≤ 65; omega
  · refine packV_size ?_
    unfold okW at h
    simp only [Bool.and_eq_true] at h
    exact h.1.2
theorem okW_key {w : Wt} (h : okW w = true) : 1 ≤ w.k.size ∧ w.k.size ≤ 32 := by
  unfold okW at h
  simp only [Bool.and_eq_true] at h
  exact of_decide_eq_true h.1.1
theorem okW_right {w : Wt} (h : okW w = true) : rightV w.n w.t w.b = true := by
  unfold okW at h
  simp only [Bool.and_eq_true] at h
  exact h.1.2
theorem wtB_len {w : Wt} (h : okW w = true) : (wtB w).length ≤ 120 := by
  have h1 := okW_key h
  have h2 := vB_size h
  have l1 := numN_len10 (show w.k.size < 18446744073709551616 by omega)
  have l2 := numN_len10 (show (vB w.n w.t w.b w.g).size < 18446744073709551616 by omega)
  unfold wtB
  simp only [List.length_cons, List.length_append, byL_len]
  omega
theorem one_t_T {s : ByteArray} (h : s.size ≤ 200) : oneP 116 (Pi.it ⟨0, s⟩) = some (numN s.size ++ byL s) := by
  show oneP 116 (.mk 0 s [] []) = _
  rw [oneP_t, if_pos ⟨em_all (.inr rfl) (.inl rfl) (.inr rfl), h⟩]
theorem bN_le (g : Bool) : bN g ≤ 1 := by cases g <;> decide
theorem print_btt {g : Bool} {k v : ByteArray} (hk : k.size ≤ 200) (hv : v.size ≤ 200) : printS [98, 116, 116] ([⟨bN g, emp⟩, ⟨0, k⟩, ⟨0, v⟩].map Pi.it) = some (bN g :: (numN k.size ++ byL k ++ (numN v.size ++ byL v))) := by
  have h2 : shP [98, 116, 116] = some [(98, false), (116, false), (116, false)] := by decide
  unfold printS
  rw [h2]
  show cat2 (oneP 98 (Pi.it ⟨bN g, emp⟩)) (cat2 (oneP 116 (Pi.it ⟨0, k⟩)) (cat2 (oneP 116 (Pi.it ⟨0, v⟩)) (some []))) = _
  rw [one_t_T hk, one_t_T hv, show oneP 98 (Pi.it ⟨bN g, emp⟩) = some [bN g] from one_b_N (n := bN g) (by have := bN_le g; omega)]
  simp [cat2]
/-- What writes are told as. -/
def cmB (q : Nat) (L : List Wt) : List Nat := 1 :: (numN q ++ L.flatMap wtB)
theorem cmB_len {q : Nat} {L : List Wt} (hq : q ≤ 1073741824) (h : ∀ w ∈ L, okW w = true) : (cmB q L).length ≤ 20 + 120 * L.length := by
  have l1 := numN_len10 (show q < 18446744073709551616 by omega)
  have key : ∀ L : List Wt, (∀ w ∈ L, okW w = true) → (L.flatMap wtB).length ≤ 120 * L.length := by
    intro L
    induction L with
    | nil => intro _; exact Nat.le_refl _
    | cons w L ih =>
      intro h
      have h1 := wtB_len (h w (List.mem_cons_self ..))
      have h2 := ih fun x hx => h x (List.mem_cons_of_mem _ hx)
      rw [List.flatMap_cons, List.length_append, List.length_cons]
      omega
  have := key L h
  unfold cmB
  simp only [List.length_cons, List.length_append]
  omega
theorem cmB_snoc {q : Nat} {L : List Wt} {j : Nat} {w : Wt} (h : L[j]? = some w) : BA (cmB q (L.take j)) ++ BA (wtB w) = BA (cmB q (L.take (j + 1))) := by
  rw [BA_append]
  congr 1
  rw [take_snocA h]
  unfold cmB
  rw [List.flatMap_append, List.flatMap_cons, List.flatMap_nil, List.append_nil]
  simp
theorem may_all {L : List Wt} (h : mayW L = true) : (1 ≤ L.length ∧ L.length ≤ 16) ∧ ∀ w ∈ L, okW w = true := by
  have hh := of_decide_eq_true h
  refine ⟨⟨hh.1, hh.2.1⟩, fun w hw => ?_⟩
  obtain ⟨j, hj⟩ := List.getElem?_of_mem hw
  have := hh.2.2 j (List.getElem?_eq_some_iff.1 hj).1
  unfold okAt at this
  rw [hj] at this
  simp only [Bool.and_eq_true] at this
  exact this.1
theorem commit_ok (q : Nat) (L : List Wt) (h1 : 1 ≤ q) (h2 : q ≤ 1073741824) (hm : mayW L = true) (hb : ∀ w ∈ L, w.b < 18446744073709551616) : ACalls Tryz.prog 15 [i64 (q : Nat), wtV L] [] (Ret (.tup [str (BA (cmB q L)), i64 0])) := by
  obtain ⟨hl, hok⟩ := may_all hm
  have hmm := may_ok L (by omega)
  rw [hm] at hmm
  have n1 := rNumR_ok 1 (by decide)
  have n2 := rNumR_ok q (by omega)
  have ht := tellR_ok ⟨#[98, 110]⟩ [⟨1, emp⟩, ⟨q, emp⟩] (cmB q []) (by decide) (by simp) (fun x hx => by
    simp only [List.mem_cons, List.not_mem_nil, or_false] at hx
    rcases hx with rfl | rfl
    · exact wi_pi (by decide) (by decide)
    · exact wi_pi (by omega) (by decide)) ((print_bn (a := 1) q (by decide)).trans (by simp [cmB]))
  refine acalls_of_awpU [] hT mixed Tryz.func15 rfl (by kernel_rfl) (by kernel_rfl) (Nat.le_of_ble_eq_true rfl) ?_
  refine forkD (fun _ => ?_) (fun g => absurd (show (1 : Int) ≤ (q : Int) by omega) g)
  refine forkD (fun _ => ?_) (fun g => absurd (show (q : Int) ≤ 1073741824 by omega) g)
  refine callP hmm rfl rfl ?_
  refine callP must_yes rfl rfl ?_
  refine callP n1 rfl rfl ?_
  refine callP n2 rfl rfl ?_
  refine callCut (bs := [str ⟨#[98, 110]⟩, .view 2 [u64n 1, str ⟨#[]⟩, nilS, nilS, u64n q, str ⟨#[]⟩, nilS, nilS]]) 1 rfl ?_
  refine callS ht [] True.intro rfl ?_
  rintro E G ⟨rfl, rfl⟩ _
  refine ⟨_, _, rfl, rfl, ?_⟩
  refine loopG (α := { j : Nat // j ≤ L.length }) (fun x => [(5, .ptr 0 0), (6, str (BA (cmB q (L.take x.val)))), (25, wtV L), (26, i64 L.length), (27, i64 (x.val : Nat))]) (fun _ => [.row [i64 0]]) [⟨29, [], [.ptr 0 0, i64 1]⟩] (fun x => L.length - x.val) ⟨0, Nat.zero_le _⟩ [] [0] ⟨⟨rfl, rfl, rfl, rfl, rfl, True.intro⟩, ⟨.inl rfl, True.intro⟩, rfl, rfl, rfl⟩ ?_
  rintro ⟨j, hj⟩ K hK
  have hinc : wrp .i64 ((j : Int) + 1) = ((j + 1 : Nat) : Int) := by rw [wrpE, wi64]; omega
  refine forkD (fun h => ?_) (fun h => ?_)
  · have h' : j < L.length := by have : (j : Int) < (L.length : Int) := h; omega
    obtain ⟨w, hw⟩ : ∃ w, L[j]? = some w := ⟨_, List.getElem?_eq_getElem h'⟩
    have hik : (0 : Int) ≤ (j : Nat) ∧ ((j : Nat) : Int) < (L.length : Nat) := by omega
    have hmem := List.mem_of_getElem? hw
    have hwb := hb w hmem
    have ho := hok w hmem
    have hk := okW_key ho
    have hv := vB_size ho
    have hlen := cmB_len (q := q) (L := L.take j) h2 (fun x hx => hok x (List.mem_of_mem_take hx))
    rw [List.length_take, Nat.min_eq_left hj] at hlen
    have hwl := wtB_len ho
    have hsn := cmB_snoc (q := q) hw
    have ct := flat_takeN wtC_len hw
    have hbt := bytesR_ok w.n w.t w.b w.g hwb (fun _ => okW_right ho)
    have hbN := bN_le w.g
    have htt := tellR_ok ⟨#[98, 116, 116]⟩ [⟨bN w.g, emp⟩, ⟨0, w.k⟩, ⟨0, vB w.n w.t w.b w.g⟩] (wtB w) (by decide) (by simp) (fun x hx => by
      simp only [List.mem_cons, List.not_mem_nil, or_false] at hx
      rcases hx with rfl | rfl | rfl
      · exact wi_pi (by omega) (by decide)
      · exact wi_pi (by decide) (by omega)
      · exact wi_pi (by decide) (by omega)) (print_btt (by omega) (by omega))
    have htr := rTruthR_ok w.g
    have hsz : (BA (cmB q (L.take j))).size + (BA (wtB w)).size ≤ 9223372036854775807 := by rw [BA_size, BA_size]; omega
    generalize BA (cmB q (L.take j)) = X0 at hsn hsz ⊢
    generalize BA (wtB w) = X2 at hsn hsz htt
    obtain ⟨k, g, n, t, b⟩ := w
    dsimp only at *
    generalize vB n t b g = v at *
    refine Ob.intro hik ?_
    refine optK_intro ct ?_
    cases g <;>
    · refine ⟨[0, 0, 0, 1, 0, 0, 0, 0, 0, 0, 0, 2, 2, 2, 3, 3, 3], [[], [], [1], [1, 2], [], [4], [4, 5], [], [7], [], [9], [1, 2, 3, 7, 8, 9, 10], [1, 2, 3, 7, 8, 9, 10, 11], [1, 2, 3, 4, 5, 6, 7, 8, 9, 10, 11, 12], [1, 2, 3, 4, 5, 6, 7, 8, 9, 10, 11, 12, 13], [0, 1, 2, 3, 4, 5, 6, 7, 8, 9, 10, 11, 12, 13, 14], [0, 1, 2, 3, 4, 5, 6, 7, 8, 9, 10, 11, 12, 13, 14, 15]], [0, 0, 0, 0, 0, 0, 0, 0, 0, 0, 0, 0, 0, 0, 1, 1, 1], [3, 11, 14], [[6], [8], [32], [33], [8], [35], [36], [8], [38], [8], [40], [39, 41], [42], [34, 37, 43], [44], [31, 45], [46]], Ob.intro (by kernel_rfl) ?_⟩
      repeat refine same ?_
      refine callP htr rfl rfl ?_
      repeat refine same ?_
      refine callP hbt rfl rfl ?_
      repeat refine same ?_
      refine callCut (bs := [str ⟨#[98, 116, 116]⟩, .view 3 [u64n _, str ⟨#[]⟩, nilS, nilS, u64n 0, str k, nilS, nilS, u64n 0, str v, nilS, nilS]]) 1 rfl ?_
      refine callS htt [] True.intro rfl ?_
      rintro E G ⟨rfl, rfl⟩ _
      refine ⟨_, _, rfl, rfl, ?_⟩
      repeat first | refine same ?_ | refine Ob.intro hsz ?_
      refine hK ⟨j + 1, h'⟩ [] [0] _ (show L.length - j = L.length - (j + 1) + 1 by omega) ⟨⟨rfl, congrArg str hsn, rfl, rfl, congrArg i64 hinc, True.intro⟩, ⟨.inl rfl, True.intro⟩, rfl, rfl, rfl⟩
  · have h' : j = L.length := by have : ¬ (j : Int) < (L.length : Int) := h; omega
    have hX : BA (cmB q (L.take j)) = BA (cmB q L) := by rw [h', List.take_length]
    refine acallsD_of_rec hT mixed Tryz.func29 rfl (by kernel_rfl) (by kernel_rfl) rfl rfl rfl (fun u b h => by cases h) (Nat.le_of_ble_eq_true rfl) ?_
    exact ⟨rfl, [.row [i64 0]], _, ⟨⟨_, rfl, rfl⟩, ⟨.inl rfl, True.intro⟩, Nat.le_of_ble_eq_true rfl, rfl⟩, True.intro, [], .tup [str (BA (cmB q (L.take j))), i64 0], ⟨⟨_, rfl, rfl⟩, True.intro, Nat.zero_le _, rfl⟩, by rw [hX], rfl⟩
end Go.Proofs.YtkbpddejafdmdaaGreat.A
