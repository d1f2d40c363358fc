/- The law CapsComesOf, by the functions that it calls. No condition. -/
import Derived.Test.YtofinmlloefocaaCk
namespace Go.Proofs.Ytofinmlloefocaa.A
open Go
set_option linter.unusedVariables false
set_option maxRecDepth 100000
set_option pp.maxSteps 1500

theorem doB_ok (tags : Nat) (g : Rg) (k w t : Int) (x : Nat) (m : Bool) (e : Int) (he : checkE tags g k w t x m = e) (hg : RgOk g) (ht : tags < 1000000) (hx : x < 18446744073709551616) :
    ACalls Try.prog 11 [.ptr 1 0, deed k w t x m] (tabH tags g) (RetH (.tup [u64 (doN tags e k x), i64 e]) (tabH (doTags tags e k) (doG tags g e k w t x m))) := by
  cases m
  · exact do_false tags g k w t x e he hg ht hx
  · exact do_true tags g k w t x e he hg ht hx
theorem nth_mapI {α : Type} {g : α → AV} {L : List α} {w : Int} {x : α} (h : L[w.toNat]? = some x) : nth (List.drop (w.toNat * 1) (L.map g)) 0 = some (g x) := by
  rw [nth_eq, List.getElem?_drop, Nat.mul_one, Nat.add_zero, List.getElem?_map, h]
  rfl
theorem plusL_len (g : Rg) : (plusL g).length = g.length := List.length_map ..
theorem minusL_len (g : Rg) : (minusL g).length = g.length := List.length_map ..
theorem capsComes_none (people : Int) (L : List Dd) (hp : people < 1 ∨ 8 < people) :
    ACalls Try.prog 4 [i64 people, .view L.length (ddsC L)] [] (Ret (bo true)) := by
  refine acalls_of_awp hT mixed Try.func4 rfl (by kernel_rfl) (by kernel_rfl) (Nat.le_of_ble_eq_true rfl) ?_
  refine callP awakeC_ok rfl rfl ?_
  refine callP (newBad_ok people hp) rfl rfl ?_
  refine end0 rfl rfl rfl rfl
def ComesSt (n : Nat) : Type := { z : Nat × Nat × Rg // z.1 ≤ 120 ∧ z.2.1 ≤ z.1 ∧ RgOk z.2.2 ∧ z.2.2.length = n }
theorem shl1 {k : Nat} (h : k < 16) : wrp .u64 ((1 : Int) * 2 ^ min ((k : Int)).toNat IntKind.u64.bits) = ((2 ^ k : Nat) : Int) := by
  have e2 : min ((k : Nat) : Int).toNat IntKind.u64.bits = k := by
    have : IntKind.u64.bits = 64 := rfl
    rw [this]
    omega
  have h15 : 2 ^ k ≤ 2 ^ 15 := Nat.pow_le_pow_right (by decide) (by omega)
  rw [e2, wrpE, wu64, Int.one_mul]
  have : ((2 : Int) ^ k) = ((2 ^ k : Nat) : Int) := by simp
  rw [this]
  generalize 2 ^ k = z at *
  omega
theorem capsComes_ok (n : Nat) (L : List Dd) (hp1 : 1 ≤ n) (hp8 : n ≤ 8) (hd : ∀ d ∈ L, d.x < 18446744073709551616) :
    ACalls Try.prog 4 [i64 n, .view L.length (ddsC L)] [] (Ret (bo true)) := by
  refine acalls_of_awp hT mixed Try.func4 rfl (by kernel_rfl) (by kernel_rfl) (Nat.le_of_ble_eq_true rfl) ?_
  refine callP awakeC_ok rfl rfl ?_
  refine callH (new_ok n hp1 hp8) [] rfl True.intro rfl rfl (H' := tabH 0 (nobody n)) (by simp only [tabH, renH, renO_rg]; rfl) ?_
  refine loopI (α := ComesSt n) (fun z => [(0, i64 n), (1, .view L.length (ddsC L)), (5, .ptr 1 0), (7, i64 (z.val.1 : Nat))])
    (fun z => tabH z.val.2.1 z.val.2.2) (fun z => 120 - z.val.1)
    ⟨(0, 0, nobody n), Nat.zero_le _, Nat.le_refl _, ⟨by rw [nobody_len]; exact hp8, fun r hr => by rw [List.eq_of_mem_replicate hr]; decide⟩, nobody_len n⟩ [0, 1] ⟨⟨rfl, rfl, rfl, rfl, True.intro⟩, ⟨.inl (by rw [renO_rg]; rfl), .inl rfl, True.intro⟩, rfl, rfl, rfl⟩ ?_
  intro z K hK
  obtain ⟨⟨i, tags, g⟩, hst⟩ := z
  replace hst : i ≤ 120 ∧ tags ≤ i ∧ RgOk g ∧ g.length = n := hst
  have hinc : wrp .i64 ((i : Int) + 1) = ((i + 1 : Nat) : Int) := by rw [wrpE, wi64]; omega
  have hg := hst.2.2.1
  have hgn := hst.2.2.2
  have hrg : ∀ (f : Nat → Nat), renO f (.row (rgC g)) = .row (rgC g) := fun f => renO_rg f g
  refine forkD (fun h1 => ?_) (fun h1 => end0 rfl rfl rfl rfl)
  refine forkD (fun h2 => ?_) (fun h2 => end0 rfl rfl rfl rfl)
  have h1' : i < L.length := by have : (i : Int) < (L.length : Int) := h1; omega
  obtain ⟨d, hdd⟩ : ∃ d, L[i]? = some d := ⟨_, List.getElem?_eq_getElem h1'⟩
  obtain ⟨e, he⟩ : ∃ e, checkE tags g d.k d.w d.t d.x d.m = e := ⟨_, rfl⟩
  have hdx := hd d (List.mem_of_getElem? hdd)
  have hdo := doB_ok tags g d.k d.w d.t d.x d.m e he hg (by omega) hdx
  have hcame := fun who hw => came (who := who) hg he hw
  have e1 : wrp .u64 (tags : Int) = (tags : Int) := by rw [wrpE, wu64]; omega
  have htl := doTags_le (tags := tags) (e := e) (k := d.k)
  have hgl := doG_len tags g e d.k d.w d.t d.x d.m
  have hgo := doG_ok hg tags e d.k d.w d.t d.x d.m
  have hrn : renH (rn [0, 1] 2) (tabH (doTags tags e d.k) (doG tags g e d.k d.w d.t d.x d.m)) = tabH (doTags tags e d.k) (doG tags g e d.k d.w d.t d.x d.m) := by simp only [tabH, renH, renO_rg]; rfl
  refine callH (masks_ok tags g (by omega) hg.1) [0, 1] rfl ⟨.inl (by rw [renO_rg]; rfl), .inl rfl, True.intro⟩ rfl rfl (H' := tabH tags g) (by simp only [tabH, renH, renO_rg]; rfl) ?_
  refine callH (tags_ok tags g) [0, 1] rfl ⟨.inl (by rw [renO_rg]; rfl), .inl rfl, True.intro⟩ rfl rfl (H' := tabH tags g) (by simp only [tabH, renH, renO_rg]; rfl) ?_
  refine Ob.intro (show (0 : Int) ≤ (i : Nat) ∧ ((i : Nat) : Int) < (L.length : Nat) by omega) ?_
  refine optK_intro (dd_take hdd) ?_
  generalize hg' : doG tags g e d.k d.w d.t d.x d.m = g' at *
  generalize htg' : doTags tags e d.k = tags' at *
  refine callH hdo [0, 1] rfl ⟨.inl (by rw [renO_rg]; rfl), .inl rfl, True.intro⟩ rfl rfl (H' := tabH tags' g') (by simp only [tabH, renH, renO_rg]; rfl) ?_
  refine callH (masks_ok tags' g' (by omega) hgo.1) [0, 1] rfl ⟨.inl (by rw [renO_rg]; rfl), .inl rfl, True.intro⟩ rfl rfl (H' := tabH tags' g') (by simp only [tabH, renH, renO_rg]; rfl) ?_
  have pln := plusL_len g
  have mln := minusL_len g
  have pln' := plusL_len g'
  have mln' := minusL_len g'
  generalize hpl : plusL g = pl at *
  generalize hml : minusL g = ml at *
  generalize hpl' : plusL g' = pl' at *
  generalize hml' : minusL g' = ml' at *
  refine loopI (α := { k : Nat // k ≤ n }) (fun k => [(0, i64 n), (1, .view L.length (ddsC L)), (5, .ptr 1 0), (7, i64 (i : Nat)), (8, us pl), (9, us ml), (10, u64 (tags : Nat)), (12, i64 e), (13, us pl'), (14, us ml'), (15, i64 (k.val : Nat))])
    (fun _ => tabH tags' g') (fun k => n - k.val) ⟨0, Nat.zero_le _⟩ [0, 1] ⟨⟨rfl, rfl, rfl, rfl, rfl, rfl, congrArg u64 e1, rfl, rfl, rfl, rfl, True.intro⟩, ⟨.inl (by rw [renO_rg]; rfl), .inl rfl, True.intro⟩, rfl, rfl, rfl⟩ ?_
  rintro ⟨who, hwho⟩ K2 hK2
  have hinc2 : wrp .i64 ((who : Int) + 1) = ((who + 1 : Nat) : Int) := by rw [wrpE, wi64]; omega
  refine forkD (fun h3 => ?_) (fun h3 => ?_)
  · have h3' : who < n := by have : (who : Int) < (n : Int) := h3; omega
    obtain ⟨p, c, p', c', hc⟩ := hcame who (by omega)
    have bp := (show (0 : Int) ≤ (who : Nat) ∧ ((who : Nat) : Int) < (pl.length : Nat) by omega)
    have bm := (show (0 : Int) ≤ (who : Nat) ∧ ((who : Nat) : Int) < (ml.length : Nat) by omega)
    have bp' := (show (0 : Int) ≤ (who : Nat) ∧ ((who : Nat) : Int) < (pl'.length : Nat) by omega)
    have bm' := (show (0 : Int) ≤ (who : Nat) ∧ ((who : Nat) : Int) < (ml'.length : Nat) by omega)
    have lo : andN p' p ||| andN c' c < 18446744073709551616 := Nat.or_lt_two_pow (n := 64) (andN_lt _ _) (andN_lt _ _)
    have ef : wrp .u64 ((BitVec.ofInt IntKind.u64.bits (wrp .u64 ((BitVec.ofInt IntKind.u64.bits (p' : Int) &&& ~~~BitVec.ofInt IntKind.u64.bits (p : Int)).toNat : Int)) ||| BitVec.ofInt IntKind.u64.bits (wrp .u64 ((BitVec.ofInt IntKind.u64.bits (c' : Int) &&& ~~~BitVec.ofInt IntKind.u64.bits (c : Int)).toNat : Int))).toNat : Int) = ((andN p' p ||| andN c' c : Nat) : Int) := by
      rw [andN64, andN64, or64 (andN_lt _ _) (andN_lt _ _)]
    refine ⟨[0, 0, 0, 0, 0, 0, 0, 0, 0, 0, 0, 0, 0, 0, 0, 0, 0, 0, 0, 0, 0, 0], [[], [], [0, 1], [0, 1, 2], [], [], [4, 5], [4, 5, 6], [0, 1, 2, 3, 4, 5, 6, 7], [0, 1, 2, 3, 4, 5, 6, 7, 8], [0, 1, 2, 3, 4, 5, 6, 7, 8, 9], [0, 1, 2, 3, 4, 5, 6, 7, 8, 9, 10], [0, 1, 2, 3, 4, 5, 6, 7, 8, 9, 10], [0, 1, 2, 3, 4, 5, 6, 7, 8, 9, 10, 11, 12], [0, 1, 2, 3, 4, 5, 6, 7, 8, 9, 10, 11, 12, 13], [0, 1, 2, 3, 4, 5, 6, 7, 8, 9, 10], [0, 1, 2, 3, 4, 5, 6, 7, 8, 9, 10], [0, 1, 2, 3, 4, 5, 6, 7, 8, 9, 10, 15, 16], [0, 1, 2, 3, 4, 5, 6, 7, 8, 9, 10, 15, 16, 17], [0, 1, 2, 3, 4, 5, 6, 7, 8, 9, 10, 11, 12, 13, 14, 15, 16, 17, 18], [0, 1, 2, 3, 4, 5, 6, 7, 8, 9, 10, 11, 12, 13, 14, 15, 16, 17, 18, 19], [0, 1, 2, 3, 4, 5, 6, 7, 8, 9, 10, 11, 12, 13, 14, 15, 16, 17, 18, 19, 20]], [0, 0, 0, 0, 0, 0, 0, 0, 0, 0, 0, 0, 0, 0, 0, 0, 0, 0, 0, 0, 0, 0], [], [[8], [15], [65, 66], [67], [13], [15], [69, 70], [71], [68, 72], [73], [74], [9, 75], [15, 75], [76, 77, 75], [78, 75], [14, 75], [15, 75], [80, 81, 75], [82, 75], [79, 83, 75], [84, 75], [75, 85]], Ob.intro (by kernel_rfl) ?_⟩
    refine Ob.intro bp ?_
    refine optK_intro (nth_map hc.gp) ?_
    refine Ob.intro bp' ?_
    refine optK_intro (nth_map hc.gp') ?_
    refine fork (fun ga => absurd ga (by rw [andN64, hc.keepP]; decide)) (fun ga => ?_)
    refine Ob.intro bm ?_
    refine optK_intro (nth_map hc.gc) ?_
    refine Ob.intro bm' ?_
    refine optK_intro (nth_map hc.gc') ?_
    refine fork (fun gb => absurd gb (by rw [andN64, hc.keepC]; decide)) (fun gb => ?_)
    refine optK_intro (nth_map hc.gp) ?_
    refine same ?_
    refine optK_intro (nth_map hc.gp') ?_
    refine same ?_
    refine optK_intro (nth_map hc.gc) ?_
    refine same ?_
    refine optK_intro (nth_map hc.gc') ?_
    refine same ?_
    refine ⟨[0, 0, 0, 0, 0, 0, 0, 0, 0, 0, 0, 0, 0, 0, 0, 0, 0, 0, 0, 0], [[], [], [0, 1], [0, 1, 2], [], [], [4, 5], [4, 5, 6], [0, 1, 2, 3, 4, 5, 6, 7], [], [], [9, 10], [9, 10, 11], [], [], [13, 14], [13, 14, 15], [9, 10, 11, 12, 13, 14, 15, 16], [0, 1, 2, 3, 4, 5, 6, 7, 8, 9, 10, 11, 12, 13, 14, 15, 16, 17], [0, 1, 2, 3, 4, 5, 6, 7, 8, 9, 10, 11, 12, 13, 14, 15, 16, 17, 18]], [0, 0, 0, 0, 0, 0, 0, 0, 0, 0, 0, 0, 0, 0, 0, 0, 0, 0, 0, 0], [], [[13], [15], [87, 88], [89], [8], [15], [91, 92], [93], [90, 94], [14], [15], [96, 97], [98], [9], [15], [100, 101], [102], [99, 103], [95, 104], [105]], Ob.intro (by kernel_rfl) ?_⟩
    refine Ob.intro bp' ?_
    refine optK_intro (nth_map hc.gp') ?_
    refine Ob.intro bp ?_
    refine optK_intro (nth_map hc.gp) ?_
    refine Ob.intro bm' ?_
    refine optK_intro (nth_map hc.gc') ?_
    refine Ob.intro bm ?_
    refine optK_intro (nth_map hc.gc) ?_
    refine optK_intro (nth_map hc.gp') ?_
    refine same ?_
    refine optK_intro (nth_map hc.gp) ?_
    refine same ?_
    refine optK_intro (nth_map hc.gc') ?_
    refine same ?_
    refine optK_intro (nth_map hc.gc) ?_
    refine same ?_
    rw [ef]
    have new := hc.new
    generalize andN p' p ||| andN c' c = fr at *
    refine fork (fun gc => ?_) (fun gc => ?_)
    · refine hK2 ⟨who + 1, h3'⟩ [0, 1] _ (show n - who = n - (who + 1) + 1 by omega) ⟨⟨rfl, rfl, rfl, rfl, rfl, rfl, rfl, rfl, rfl, rfl, congrArg i64 hinc2, True.intro⟩, ⟨.inl (by rw [renO_rg]; rfl), .inl rfl, True.intro⟩, rfl, rfl, rfl⟩
    · have hne : fr ≠ 0 := fun hz => by
        rw [hz] at gc
        cases gc
      obtain ⟨h0, hcase⟩ := new hne
      refine Ob.intro (show (0 : Int) ≤ (i : Nat) ∧ ((i : Nat) : Int) < (L.length : Nat) by omega) ?_
      refine optK_intro (dd_take hdd) ?_
      refine fork (fun gd => absurd gd (by rw [h0]; decide)) (fun gd => ?_)
      rcases hcase with ⟨hk, hw, htag, hf⟩ | ⟨hk, ht, hx1, hx2, hf, hw0, hw1, hw2, a, b, ha, hb, la, lb, hhas⟩
      · refine fork (fun ge => ?_) (fun ge => absurd hk (by simpa using ge))
        refine fork (fun gf => absurd hw (by simpa using gf)) (fun gf => ?_)
        refine Ob.intro (show (0 : Int) ≤ (tags : Nat) by omega) ?_
        refine fork (fun gg => absurd gg (by rw [shl1 htag, hf]; simp)) (fun gg => ?_)
        refine hK2 ⟨who + 1, h3'⟩ [0, 1] _ (show n - who = n - (who + 1) + 1 by omega) ⟨⟨rfl, rfl, rfl, rfl, rfl, rfl, rfl, rfl, rfl, rfl, congrArg i64 hinc2, True.intro⟩, ⟨.inl (by rw [renO_rg]; rfl), .inl rfl, True.intro⟩, rfl, rfl, rfl⟩
      · refine fork (fun ge => absurd (by simpa using ge) (show ¬ d.k = 1 by omega)) (fun ge => ?_)
        refine Ob.intro (show 0 ≤ d.w ∧ d.w < (pl.length : Nat) from ⟨hw0, hw1⟩) ?_
        refine optK_intro (nth_mapI ha) ?_
        have e5 : wrp .u64 ((d.x : Int) - 1) = ((d.x - 1 : Nat) : Int) := by rw [wrpE, wu64]; omega
        have hsh := shl1 (show d.x - 1 < 16 by omega)
        refine fork (fun gh => ?_) (fun gh => ?_)
        · refine Ob.intro (show 0 ≤ d.w ∧ d.w < (ml.length : Nat) from ⟨hw0, hw2⟩) ?_
          refine optK_intro (nth_mapI hb) ?_
          rw [if_pos gh, ← hf] at hhas
          refine fork (fun gf => absurd ht (by simpa using gf)) (fun gf => ?_)
          refine Ob.intro (show (0 : Int) ≤ wrp .u64 ((d.x : Int) - 1) by rw [e5]; omega) ?_
          refine fork (fun gg => absurd gg (by rw [e5, hsh, hf]; simp)) (fun gg => ?_)
          refine fork (fun gi => absurd (by rw [and64 lb lo] at gi; simpa using gi) hhas) (fun gi => ?_)
          refine hK2 ⟨who + 1, h3'⟩ [0, 1] _ (show n - who = n - (who + 1) + 1 by omega) ⟨⟨rfl, rfl, rfl, rfl, rfl, rfl, rfl, rfl, rfl, rfl, congrArg i64 hinc2, True.intro⟩, ⟨.inl (by rw [renO_rg]; rfl), .inl rfl, True.intro⟩, rfl, rfl, rfl⟩
        · rw [if_neg (by rw [gh]; decide), ← hf] at hhas
          refine fork (fun gf => absurd ht (by simpa using gf)) (fun gf => ?_)
          refine Ob.intro (show (0 : Int) ≤ wrp .u64 ((d.x : Int) - 1) by rw [e5]; omega) ?_
          refine fork (fun gg => absurd gg (by rw [e5, hsh, hf]; simp)) (fun gg => ?_)
          refine fork (fun gi => absurd (by rw [and64 la lo] at gi; simpa using gi) hhas) (fun gi => ?_)
          refine hK2 ⟨who + 1, h3'⟩ [0, 1] _ (show n - who = n - (who + 1) + 1 by omega) ⟨⟨rfl, rfl, rfl, rfl, rfl, rfl, rfl, rfl, rfl, rfl, congrArg i64 hinc2, True.intro⟩, ⟨.inl (by rw [renO_rg]; rfl), .inl rfl, True.intro⟩, rfl, rfl, rfl⟩
  · refine hK ⟨(i + 1, tags', g'), by show i + 1 ≤ 120; have : ((i : Nat) : Int) < 120 := h2; omega, by show tags' ≤ i + 1; omega, hgo, by show g'.length = n; omega⟩ [0, 1] _ (show 120 - i = 120 - (i + 1) + 1 by have : ((i : Nat) : Int) < 120 := h2; omega) ⟨⟨rfl, rfl, rfl, congrArg i64 hinc, True.intro⟩, ⟨.inl (by rw [renO_rg]; rfl), .inl rfl, True.intro⟩, rfl, rfl, rfl⟩
theorem capsComesOf_law (l0 : List AV) (w0 : Wf (.int .i64) l0) (l1 : List AV) (w1 : Wf (.slice (.strct (.cons (.int .i64) (.cons (.int .i64) (.cons (.int .i64) (.cons (.int .u64) (.cons .bool .none))))))) l1) :
    ACalls Try.prog 4 [argA (.int .i64) l0, argA (.slice (.strct (.cons (.int .i64) (.cons (.int .i64) (.cons (.int .i64) (.cons (.int .u64) (.cons .bool .none))))))) l1] [] (Ret (.sc (.bool true))) := by
  obtain ⟨people, rfl, _⟩ := w0
  obtain ⟨L, rfl, hd, hL⟩ := wf_deeds w1
  by_cases hp : people < 1 ∨ 8 < people
  · exact capsComes_none people L hp
  · obtain ⟨n, rfl⟩ : ∃ n : Nat, people = n := ⟨people.toNat, by omega⟩
    exact capsComes_ok n L (by omega) (by omega) hd
end Go.Proofs.Ytofinmlloefocaa.A
