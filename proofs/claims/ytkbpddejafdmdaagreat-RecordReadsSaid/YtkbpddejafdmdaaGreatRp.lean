/- record: Base. No condition. -/
import Derived.Test.YtkbpddejafdmdaaGreatRo
namespace Go.Proofs.YtkbpddejafdmdaaGreat.A
open Go
set_option linter.unusedVariables false
set_option linter.unusedSimpArgs false
set_option maxRecDepth 100000
set_option pp.maxSteps 400

/-- What an entry is told as. -/
def enB (w : En) : List Nat := numN w.q.toNat ++ (numN w.k.size ++ byL w.k ++ (numN (packV w.n w.t w.b).size ++ byL (packV w.n w.t w.b)))
theorem okE_key {q : Int} {w : En} (h : okE q w = true) : 1 ≤ w.k.size ∧ w.k.size ≤ 32 := by
  unfold okE at h
  simp only [Bool.and_eq_true] at h
  exact of_decide_eq_true h.1
theorem okE_seq {q : Int} {w : En} (h : okE q w = true) : 1 ≤ w.q ∧ w.q ≤ q := by
  unfold okE at h
  simp only [Bool.and_eq_true] at h
  exact of_decide_eq_true h.2.1
theorem okE_right {q : Int} {w : En} (h : okE q w = true) : rightV w.n w.t w.b = true := by
  unfold okE at h
  simp only [Bool.and_eq_true] at h
  exact h.2.2
theorem enB_len {q : Int} {w : En} (hq : q ≤ 1073741824) (h : okE q w = true) : (enB w).length ≤ 130 := by
  have h1 := okE_key h
  have h2 := packV_size (okE_right h)
  have h3 := okE_seq h
  have l0 := numN_len10 (show w.q.toNat < 18446744073709551616 by omega)
  have l1 := numN_len10 (show w.k.size < 18446744073709551616 by omega)
  have l2 := numN_len10 (show (packV w.n w.t w.b).size < 18446744073709551616 by omega)
  unfold enB
  simp only [List.length_cons, List.length_append, byL_len]
  omega
theorem print_ntt {a : Nat} {k v : ByteArray} (hk : k.size ≤ 200) (hv : v.size ≤ 200) : printS [110, 116, 116] ([⟨a, emp⟩, ⟨0, k⟩, ⟨0, v⟩].map Pi.it) = some (numN a ++ (numN k.size ++ byL k ++ (numN v.size ++ byL v))) := by
  have h2 : shP [110, 116, 116] = some [(110, false), (116, false), (116, false)] := by decide
  unfold printS
  rw [h2]
  show cat2 (oneP 110 (Pi.it ⟨a, emp⟩)) (cat2 (oneP 116 (Pi.it ⟨0, k⟩)) (cat2 (oneP 116 (Pi.it ⟨0, v⟩)) (some []))) = _
  rw [one_t_T hk, one_t_T hv, show oneP 110 (Pi.it ⟨a, emp⟩) = some (numN a) from one_n_N a]
  simp [cat2]
def bsB (q : Nat) (L : List En) : List Nat := 2 :: (numN q ++ L.flatMap enB)
theorem bsB_len {q : Nat} {L : List En} (hq : q ≤ 1073741824) (h : ∀ w ∈ L, okE (q : Int) w = true) : (bsB q L).length ≤ 20 + 130 * L.length := by
  have l1 := numN_len10 (show q < 18446744073709551616 by omega)
  have key : ∀ L : List En, (∀ w ∈ L, okE (q : Int) w = true) → (L.flatMap enB).length ≤ 130 * L.length := by
    intro L
    induction L with
    | nil => intro _; exact Nat.le_refl _
    | cons w L ih =>
      intro h
      have h1 := enB_len (by omega) (h w (List.mem_cons_self ..))
      have h2 := ih fun x hx => h x (List.mem_cons_of_mem _ hx)
      rw [List.flatMap_cons, List.length_append, List.length_cons]
      omega
  have := key L h
  unfold bsB
  simp only [List.length_cons, List.length_append]
  omega
theorem bsB_snoc {q : Nat} {L : List En} {j : Nat} {w : En} (h : L[j]? = some w) : BA (bsB q (L.take j)) ++ BA (enB w) = BA (bsB q (L.take (j + 1))) := by
  rw [BA_append]
  congr 1
  rw [take_snocA h]
  unfold bsB
  rw [List.flatMap_append, List.flatMap_cons, List.flatMap_nil, List.append_nil]
  simp
theorem based_all {q : Int} {L : List En} (h : basedB q L = true) : (0 ≤ q ∧ q ≤ 1073741824) ∧ ∀ w ∈ L, okE q w = true := by
  have hh := of_decide_eq_true h
  refine ⟨hh.1, fun w hw => ?_⟩
  obtain ⟨j, hj⟩ := List.getElem?_of_mem hw
  have := hh.2 j (List.getElem?_eq_some_iff.1 hj).1
  unfold okAtE at this
  rw [hj] at this
  simp only [Bool.and_eq_true] at this
  exact this.1
theorem base_ok (q : Nat) (L : List En) (hl : L.length < 1000000) (hm : basedB q L = true) (hb : ∀ w ∈ L, w.b < 18446744073709551616) : ACalls Tryz.prog 16 [i64 (q : Nat), enV L] [] (Ret (.tup [str (BA (bsB q L)), i64 0])) := by
  obtain ⟨hq, hok⟩ := based_all hm
  have hmm := based_ok q L (by omega)
  rw [hm] at hmm
  have n1 := rNumR_ok 2 (by decide)
  have n2 := rNumR_ok q (by omega)
  have ht := tellR_ok ⟨#[98, 110]⟩ [⟨2, emp⟩, ⟨q, emp⟩] (bsB q []) (by decide) (by simp) (fun x hx => by
    simp only [List.mem_cons, List.not_mem_nil, or_false] at hx
    rcases hx with rfl | rfl
    · exact wi_pi (by decide) (by decide)
    · exact wi_pi (by omega) (by decide)) ((print_bn (a := 2) q (by decide)).trans (by simp [bsB]))
  refine acalls_of_awpU [] hT mixed Tryz.func16 rfl (by kernel_rfl) (by kernel_rfl) (Nat.le_of_ble_eq_true rfl) ?_
  refine callP hmm rfl rfl ?_
  refine callP must_yes rfl rfl ?_
  refine callP n1 rfl rfl ?_
  refine callP n2 rfl rfl ?_
  refine callCut (bs := [str ⟨#[98, 110]⟩, .view 2 [u64n 2, str ⟨#[]⟩, nilS, nilS, u64n q, str ⟨#[]⟩, nilS, nilS]]) 1 rfl ?_
  refine callS ht [] True.intro rfl ?_
  rintro E G ⟨rfl, rfl⟩ _
  refine ⟨_, _, rfl, rfl, ?_⟩
  refine loopG (α := { j : Nat // j ≤ L.length }) (fun x => [(5, .ptr 0 0), (6, str (BA (bsB q (L.take x.val)))), (18, enV L), (19, i64 L.length), (20, i64 (x.val : Nat))]) (fun _ => [.row [i64 0]]) [⟨29, [], [.ptr 0 0, i64 1]⟩] (fun x => L.length - x.val) ⟨0, Nat.zero_le _⟩ [] [0] ⟨⟨rfl, rfl, rfl, rfl, rfl, True.intro⟩, ⟨.inl rfl, True.intro⟩, rfl, rfl, rfl⟩ ?_
  rintro ⟨j, hj⟩ K hK
  have hinc : wrp .i64 ((j : Int) + 1) = ((j + 1 : Nat) : Int) := by rw [wrpE, wi64]; omega
  refine forkD (fun h => ?_) (fun h => ?_)
  · have h' : j < L.length := by have : (j : Int) < (L.length : Int) := h; omega
    obtain ⟨w, hw⟩ : ∃ w, L[j]? = some w := ⟨_, List.getElem?_eq_getElem h'⟩
    have hik : (0 : Int) ≤ (j : Nat) ∧ ((j : Nat) : Int) < (L.length : Nat) := by omega
    have hmem := List.mem_of_getElem? hw
    have hwb := hb w hmem
    have ho := hok w hmem
    have hk := okE_key ho
    have hsq := okE_seq ho
    have hv := packV_size (okE_right ho)
    have hlen := bsB_len (q := q) (L := L.take j) (by omega) (fun x hx => hok x (List.mem_of_mem_take hx))
    rw [List.length_take, Nat.min_eq_left hj] at hlen
    have hwl := enB_len (by omega) ho
    have hsn := bsB_snoc (q := q) hw
    have ct := flat_takeN enC_len hw
    have hbt := bytesR_ok w.n w.t w.b false hwb (fun _ => okE_right ho)
    rw [show vB w.n w.t w.b false = packV w.n w.t w.b from rfl] at hbt
    have n3 := rNumR_ok w.q.toNat (by omega)
    rw [Int.toNat_of_nonneg (show 0 ≤ w.q by omega)] at n3
    have htt := tellR_ok ⟨#[110, 116, 116]⟩ [⟨w.q.toNat, emp⟩, ⟨0, w.k⟩, ⟨0, packV w.n w.t w.b⟩] (enB w) (by decide) (by simp) (fun x hx => by
      simp only [List.mem_cons, List.not_mem_nil, or_false] at hx
      rcases hx with rfl | rfl | rfl
      · exact wi_pi (by omega) (by decide)
      · exact wi_pi (by decide) (by omega)
      · exact wi_pi (by decide) (by omega)) (print_ntt (by omega) (by omega))
    have hsz : (BA (bsB q (L.take j))).size + (BA (enB w)).size ≤ 9223372036854775807 := by rw [BA_size, BA_size]; omega
    generalize BA (bsB q (L.take j)) = X0 at hsn hsz ⊢
    generalize BA (enB w) = X2 at hsn hsz htt
    obtain ⟨k, g, n, t, b⟩ := w
    dsimp only at *
    generalize packV n t b = v at *
    generalize g.toNat = gn at *
    refine Ob.intro hik ?_
    refine optK_intro ct ?_
    refine ⟨[0, 0, 0, 1, 0, 0, 0, 0, 0, 2, 2, 2, 3, 3, 3], [[], [], [1], [1, 2], [], [4], [4, 5], [], [7], [1, 2, 3, 7, 8], [1, 2, 3, 7, 8, 9], [1, 2, 3, 4, 5, 6, 7, 8, 9, 10], [1, 2, 3, 4, 5, 6, 7, 8, 9, 10, 11], [0, 1, 2, 3, 4, 5, 6, 7, 8, 9, 10, 11, 12], [0, 1, 2, 3, 4, 5, 6, 7, 8, 9, 10, 11, 12, 13]], [0, 0, 0, 0, 0, 0, 0, 0, 0, 0, 0, 0, 1, 1, 1], [3, 9, 12], [[6], [8], [25], [26], [8], [28], [29], [8], [31], [32], [33], [27, 30, 34], [35], [24, 36], [37]], Ob.intro (by kernel_rfl) ?_⟩
    repeat refine same ?_
    refine callP n3 rfl rfl ?_
    repeat refine same ?_
    refine callP hbt rfl rfl ?_
    repeat refine same ?_
    refine callCut (bs := [str ⟨#[110, 116, 116]⟩, .view 3 [u64n gn, str ⟨#[]⟩, nilS, nilS, u64n 0, str k, nilS, nilS, u64n 0, str v, nilS, nilS]]) 1 rfl ?_
    refine callS htt [] True.intro rfl ?_
    rintro E G ⟨rfl, rfl⟩ _
    refine ⟨_, _, rfl, rfl, ?_⟩
    repeat first | refine same ?_ | refine Ob.intro hsz ?_
    refine hK ⟨j + 1, h'⟩ [] [0] _ (show L.length - j = L.length - (j + 1) + 1 by omega) ⟨⟨rfl, congrArg str hsn, rfl, rfl, congrArg i64 hinc, True.intro⟩, ⟨.inl rfl, True.intro⟩, rfl, rfl, rfl⟩
  · have h' : j = L.length := by have : ¬ (j : Int) < (L.length : Int) := h; omega
    have hX : BA (bsB q (L.take j)) = BA (bsB q L) := by rw [h', List.take_length]
    refine acallsD_of_rec hT mixed Tryz.func29 rfl (by kernel_rfl) (by kernel_rfl) rfl rfl rfl (fun u b h => by cases h) (Nat.le_of_ble_eq_true rfl) ?_
    exact ⟨rfl, [.row [i64 0]], _, ⟨⟨_, rfl, rfl⟩, ⟨.inl rfl, True.intro⟩, Nat.le_of_ble_eq_true rfl, rfl⟩, True.intro, [], .tup [str (BA (bsB q (L.take j))), i64 0], ⟨⟨_, rfl, rfl⟩, True.intro, Nat.zero_le _, rfl⟩, by rw [hX], rfl⟩
end Go.Proofs.YtkbpddejafdmdaaGreat.A
