/- record: Rights. No condition. -/
import Derived.Test.YtkbpddejafdmdaaGreatRk
import Derived.Test.YtkbpddejafdmdaaGreatCx
namespace Go.Proofs.YtkbpddejafdmdaaGreat.A
open Go
set_option linter.unusedVariables false
set_option linter.unusedSimpArgs false
set_option maxRecDepth 100000
set_option pp.maxSteps 400

/-- A table's bytes. -/
def prB (r : Nat × Nat) : List Nat := numN r.1 ++ numN r.2
def rgB (tags : Nat) (g : Rg) : List Nat := 5 :: (numN tags ++ g.flatMap prB)
theorem rgB_snoc {tags : Nat} {g : Rg} {j : Nat} {r : Nat × Nat} (h : g[j]? = some r) : BA (rgB tags (g.take j)) ++ BA (prB r) = BA (rgB tags (g.take (j + 1))) := by
  rw [BA_append]
  congr 1
  rw [take_snocA h]
  unfold rgB
  rw [List.flatMap_append, List.flatMap_cons, List.flatMap_nil, List.append_nil]
  simp
theorem prB_len {r : Nat × Nat} (h : r.1 < 18446744073709551616 ∧ r.2 < 18446744073709551616) : (prB r).length ≤ 20 := by
  have l1 := numN_len10 h.1
  have l2 := numN_len10 h.2
  unfold prB
  rw [List.length_append]
  omega
theorem rgB_len {tags : Nat} {g : Rg} (ht : tags ≤ 1000) (h : ∀ r ∈ g, r.1 < 18446744073709551616 ∧ r.2 < 18446744073709551616) : (rgB tags g).length ≤ 20 + 20 * g.length := by
  have l1 := numN_len10 (show tags < 18446744073709551616 by omega)
  have key : ∀ g : Rg, (∀ r ∈ g, r.1 < 18446744073709551616 ∧ r.2 < 18446744073709551616) → (g.flatMap prB).length ≤ 20 * g.length := by
    intro L
    induction L with
    | nil => intro _; exact Nat.le_refl _
    | cons w L ih =>
      intro h
      have h1 := prB_len (h w (List.mem_cons_self ..))
      have h2 := ih fun x hx => h x (List.mem_cons_of_mem _ hx)
      rw [List.flatMap_cons, List.length_append, List.length_cons]
      omega
  have := key g h
  unfold rgB
  simp only [List.length_cons, List.length_append]
  omega
theorem print_nn {a b : Nat} : printS [110, 110] ([⟨a, emp⟩, ⟨b, emp⟩].map Pi.it) = some (prB (a, b)) := by
  have h2 : shP [110, 110] = some [(110, false), (110, false)] := by decide
  unfold printS
  rw [h2]
  show cat2 (oneP 110 (Pi.it ⟨a, emp⟩)) (cat2 (oneP 110 (Pi.it ⟨b, emp⟩)) (some [])) = _
  rw [show oneP 110 (Pi.it ⟨a, emp⟩) = some (numN a) from one_n_N a, show oneP 110 (Pi.it ⟨b, emp⟩) = some (numN b) from one_n_N b]
  simp [cat2, prB]
theorem belowH_tab3 (tags : Nat) (g : Rg) (n : Int) : belowH 3 (tabH tags g ++ [.row [i64 n]]) = true := by
  have h : belowL 3 (rgC g) = true := belowL_rg 3 g
  simp only [tabH, tabO, List.cons_append, List.nil_append, belowH, belowO, h]
  rfl
theorem rights_ok (tags : Nat) (g : Rg) (hg : RgOk g) (h1 : 1 ≤ g.length) (ht : tags ≤ 1000) : ACalls Tryz.prog 18 [.ptr 1 0] (tabH tags g) (RetH (.tup [str (BA (rgB tags g)), i64 0]) (tabH tags g)) := by
  have n1 := rNumR_ok 5 (by decide)
  have n2 := rNumR_ok tags (by omega)
  have htl := tellR_ok ⟨#[98, 110]⟩ [⟨5, emp⟩, ⟨tags, emp⟩] (rgB tags []) (by decide) (by simp) (fun x hx => by
    simp only [List.mem_cons, List.not_mem_nil, or_false] at hx
    rcases hx with rfl | rfl
    · exact wi_pi (by decide) (by decide)
    · exact wi_pi (by omega) (by decide)) ((print_bn (a := 5) tags (by decide)).trans (by simp [rgB]))
  refine acalls_of_awpU [] hT mixed Tryz.func18 rfl (by kernel_rfl) (by kernel_rfl) (Nat.le_of_ble_eq_true rfl) ?_
  refine callP n1 rfl rfl ?_
  refine callH (H := tabH tags g ++ [.row [i64 0]]) (tags_ok tags g) [0, 1] rfl ⟨.inl (by rw [renO_rg]; rfl), .inl rfl, True.intro⟩ rfl rfl (H' := tabH tags g ++ [.row [i64 0]]) (by simp only [tabH, renH, renO_rg]; rfl) ?_
  refine callP n2 rfl rfl ?_
  refine callCut (bs := [str ⟨#[98, 110]⟩, .view 2 [u64n 5, str ⟨#[]⟩, nilS, nilS, u64n tags, str ⟨#[]⟩, nilS, nilS]]) 3 rfl ?_
  refine callS htl [] True.intro rfl ?_
  rintro E G ⟨rfl, rfl⟩ _
  refine ⟨_, _, rfl, rfl, ?_⟩
  refine callH (H := tabH tags g ++ [.row [i64 0], .dead]) (masks_ok tags g h1 hg.1) [0, 1] rfl ⟨.inl (by rw [renO_rg]; rfl), .inl rfl, True.intro⟩ rfl rfl (H' := tabH tags g ++ [.row [i64 0], .dead]) (by simp only [tabH, renH, renO_rg]; rfl) ?_
  have hpl : (plusL g).length = g.length := List.length_map ..
  have hml : (minusL g).length = g.length := List.length_map ..
  refine loopG (α := { j : Nat // j ≤ g.length }) (fun x => [(3, .ptr 2 0), (4, str (BA (rgB tags (g.take x.val)))), (5, us (plusL g)), (6, us (minusL g)), (22, i64 g.length), (23, i64 (x.val : Nat))]) (fun _ => [.row (rgC g), tabO tags g, .row [i64 0]]) [⟨29, [], [.ptr 2 0, i64 1]⟩] (fun x => g.length - x.val) ⟨0, Nat.zero_le _⟩ [] [0, 1, 2] ⟨⟨rfl, rfl, rfl, rfl, congrArg (fun n : Nat => i64 n) hpl, rfl, True.intro⟩, ⟨.inl (by rw [renO_rg]; rfl), .inl rfl, .inl rfl, True.intro⟩, rfl, rfl, rfl⟩ ?_
  rintro ⟨j, hj⟩ K hK
  have hinc : wrp .i64 ((j : Int) + 1) = ((j + 1 : Nat) : Int) := by rw [wrpE, wi64]; have := hg.1; omega
  refine forkD (fun h => ?_) (fun h => ?_)
  · have h' : j < g.length := by have : (j : Int) < (g.length : Int) := h; omega
    obtain ⟨r, hr⟩ : ∃ r, g[j]? = some r := ⟨_, List.getElem?_eq_getElem h'⟩
    have hr1 : (plusL g)[j]? = some r.1 := by rw [plusL, List.getElem?_map, hr]; rfl
    have hr2 : (minusL g)[j]? = some r.2 := by rw [minusL, List.getElem?_map, hr]; rfl
    have bp := (show (0 : Int) ≤ (j : Nat) ∧ ((j : Nat) : Int) < ((plusL g).length : Nat) by omega)
    have bm := (show (0 : Int) ≤ (j : Nat) ∧ ((j : Nat) : Int) < ((minusL g).length : Nat) by omega)
    have hrb := hg.2 r (List.mem_of_getElem? hr)
    have hlen := rgB_len (tags := tags) (g := g.take j) ht (fun x hx => hg.2 x (List.mem_of_mem_take hx))
    rw [List.length_take, Nat.min_eq_left hj] at hlen
    have hwl := prB_len hrb
    have hsn := rgB_snoc (tags := tags) hr
    have htt := tellR_ok ⟨#[110, 110]⟩ [⟨r.1, emp⟩, ⟨r.2, emp⟩] (prB r) (by decide) (by simp) (fun x hx => by
      simp only [List.mem_cons, List.not_mem_nil, or_false] at hx
      rcases hx with rfl | rfl
      · exact wi_pi hrb.1 (by decide)
      · exact wi_pi hrb.2 (by decide)) print_nn
    have hsz : (BA (rgB tags (g.take j))).size + (BA (prB r)).size ≤ 9223372036854775807 := by rw [BA_size, BA_size]; have := hg.1; omega
    generalize BA (rgB tags (g.take j)) = X0 at hsn hsz ⊢
    generalize BA (prB r) = X2 at hsn hsz htt
    refine ⟨[0, 0, 0, 0, 0, 0, 0, 0, 0, 0, 0, 0, 1, 1, 1], [[], [], [], [1, 2], [1, 2, 3], [1, 2, 3, 4], [], [], [6, 7], [6, 7, 8], [6, 7, 8, 9], [1, 2, 3, 4, 5, 6, 7, 8, 9, 10], [1, 2, 3, 4, 5, 6, 7, 8, 9, 10, 11], [0, 1, 2, 3, 4, 5, 6, 7, 8, 9, 10, 11, 12], [0, 1, 2, 3, 4, 5, 6, 7, 8, 9, 10, 11, 12, 13]], [0, 0, 0, 0, 0, 0, 0, 0, 0, 0, 0, 0, 1, 1, 1], [12], [[4], [5], [7], [27, 28], [29], [30], [6], [7], [32, 33], [34], [35], [31, 36], [37], [26, 38], [39]], Ob.intro (by kernel_rfl) ?_⟩
    repeat first | refine same ?_ | refine Ob.intro bp ?_ | refine Ob.intro bm ?_ | refine optK_intro (nth_map hr1) ?_ | refine optK_intro (nth_map hr2) ?_
    refine callCut (bs := [str ⟨#[110, 110]⟩, .view 2 [u64n r.1, str ⟨#[]⟩, nilS, nilS, u64n r.2, str ⟨#[]⟩, nilS, nilS]]) 3 rfl ?_
    refine callS htt [] True.intro rfl ?_
    rintro E G ⟨rfl, rfl⟩ _
    refine ⟨_, _, rfl, rfl, ?_⟩
    repeat first | refine same ?_ | refine Ob.intro hsz ?_
    refine hK ⟨j + 1, h'⟩ [] [0, 1, 2] _ (show g.length - j = g.length - (j + 1) + 1 by omega) ⟨⟨rfl, congrArg str hsn, rfl, rfl, rfl, congrArg i64 hinc, True.intro⟩, ⟨.inl (by rw [renO_rg]; rfl), .inl rfl, .inl rfl, True.intro⟩, rfl, rfl, rfl⟩
  · have h' : j = g.length := by have : ¬ (j : Int) < (g.length : Int) := h; omega
    have hX : BA (rgB tags (g.take j)) = BA (rgB tags g) := by rw [h', List.take_length]
    refine acallsD_of_rec hT mixed Tryz.func29 rfl (by kernel_rfl) (by kernel_rfl) rfl rfl rfl (fun u b h => by cases h) (Nat.le_of_ble_eq_true rfl) ?_
    exact ⟨rfl, [.row (rgC g), tabO tags g, .row [i64 0]], _, ⟨⟨_, rfl, rfl⟩, ⟨.inl rfl, .inl rfl, .inl rfl, True.intro⟩, Nat.le_refl 3, belowH_tab3 tags g 0⟩, True.intro, tabH tags g, .tup [str (BA (rgB tags (g.take j))), i64 0], ⟨⟨_, rfl, rfl⟩, ⟨.inl rfl, .inl rfl, True.intro⟩, Nat.le_refl 2, belowH_tab tags g⟩, by rw [hX], rfl⟩
end Go.Proofs.YtkbpddejafdmdaaGreat.A
