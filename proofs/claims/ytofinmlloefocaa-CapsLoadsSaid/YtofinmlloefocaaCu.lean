/- Tables loaded out of masks. No condition. -/
import Derived.Test.YtofinmlloefocaaCt
namespace Go.Proofs.Ytofinmlloefocaa.A
open Go
set_option linter.unusedVariables false
set_option maxRecDepth 100000
set_option pp.maxSteps 1500

def boxT (tags : Nat) : Heap := [.row [i64 tags]]
def over (tags x : Nat) : Bool := !decide (x < 2 ^ tags)
theorem shr64 {tags x : Nat} (ht : tags ≤ 16) : hd ((x : Int).fdiv (2 ^ min (wrp .u64 (tags : Int)).toNat IntKind.u64.bits)) = ((x / 2 ^ tags : Nat) : Int) := by
  have e1 : wrp .u64 (tags : Int) = (tags : Int) := by rw [wrpE, wu64]; omega
  have e2 : min (tags : Int).toNat IntKind.u64.bits = tags := by
    have : IntKind.u64.bits = 64 := rfl
    rw [this]
    omega
  rw [hd_eq, e1, e2, Int.fdiv_eq_ediv_of_nonneg _ (Int.pow_nonneg (by decide))]
  have : ((2 : Int) ^ tags) = ((2 ^ tags : Nat) : Int) := by simp
  rw [this]
  rfl
theorem over1_ok (tags x : Nat) (ht : tags ≤ 16) : ACalls Try.prog 38 [u64 x, .ptr 0 0] (boxT tags) (RetH (bo (over tags x)) (boxT tags)) := by
  have hs := shr64 (x := x) ht
  have hp : 0 < 2 ^ tags := Nat.pow_pos (by decide)
  have e1 : wrp .u64 (tags : Int) = (tags : Int) := by rw [wrpE, wu64]; omega
  refine acalls_of_awp hT mixed Try.func38 rfl (by kernel_rfl) (by kernel_rfl) (Nat.le_of_ble_eq_true rfl) ?_
  refine Ob.intro (by rw [e1]; omega) ?_
  refine fork (fun h => ?_) (fun h => ?_)
  · refine endH rfl rfl rfl ⟨.inl rfl, True.intro⟩ (Nat.le_refl 1) rfl (congrArg bo ?_)
    rw [hs] at h
    have h := bne_iff_ne.1 h
    unfold over
    rw [decide_eq_false (fun hl => h (by rw [Nat.div_eq_of_lt hl]; rfl))]
    rfl
  · refine endH rfl rfl rfl ⟨.inl rfl, True.intro⟩ (Nat.le_refl 1) rfl (congrArg bo ?_)
    rw [hs] at h
    have h := bne_eq_false_iff_eq.1 h
    unfold over
    rw [decide_eq_true ((Nat.div_eq_zero_iff_lt hp).1 (by omega))]
    rfl
def fnL : AV := .fn (.func 38) [.ptr 0 0]
theorem indexL_ok (tags : Nat) (l : List Nat) (ht : tags ≤ 16) (hl : l.length < 9223372036854775807) :
    ACalls Try.prog 39 [us l, fnL] (boxT tags) (fun E G => ∃ v, IdxR (∃ x ∈ l, over tags x = true) v ∧ E = .ret v ∧ G = boxT tags) := by
  refine acalls_of_awp hT mixed Try.func39 rfl (by kernel_rfl) (by kernel_rfl) (Nat.le_of_ble_eq_true rfl) ?_
  refine loopI (α := { k : Nat // k ≤ l.length ∧ ∀ x ∈ l.take k, over tags x = false }) (fun k => [(0, us l), (1, fnL), (7, i64 l.length), (8, i64 (k.val : Nat))]) (fun _ => boxT tags) (fun k => l.length - k.val) ⟨0, Nat.zero_le _, by simp⟩ [0] ⟨⟨rfl, rfl, rfl, rfl, True.intro⟩, ⟨.inl rfl, True.intro⟩, rfl, rfl, rfl⟩ ?_
  intro z K hK
  obtain ⟨k, hk, hnot⟩ := z
  have hinc : wrp .i64 ((k : Int) + 1) = ((k + 1 : Nat) : Int) := by rw [wrpE, wi64]; omega
  refine forkD (fun h => ?_) (fun h => ?_)
  · have h' : k < l.length := by have : (k : Int) < (l.length : Int) := h; omega
    obtain ⟨y, hy⟩ : ∃ y, l[k]? = some y := ⟨_, List.getElem?_eq_getElem h'⟩
    have hc := over1_ok tags y ht
    refine Ob.intro (show (0 : Int) ≤ (k : Nat) ∧ ((k : Nat) : Int) < (l.length : Nat) by omega) ?_
    refine optK_intro (nth_map hy) ?_
    refine callH hc [0] rfl ⟨.inl rfl, True.intro⟩ rfl rfl (H' := boxT tags) rfl ?_
    refine fork (fun g => ?_) (fun g => ?_)
    · refine endQ rfl rfl rfl ⟨.inl rfl, True.intro⟩ (Nat.le_refl 1) rfl ⟨k, rfl, ⟨fun _ => ⟨y, List.mem_of_getElem? hy, g⟩, fun _ => by omega⟩⟩
    · refine hK ⟨k + 1, h', ?_⟩ [0] _ (show l.length - k = l.length - (k + 1) + 1 by omega) ⟨⟨rfl, rfl, rfl, congrArg i64 hinc, True.intro⟩, ⟨.inl rfl, True.intro⟩, rfl, rfl, rfl⟩
      rw [take_snoc hy]
      intro x hxm
      rcases List.mem_append.1 hxm with hxm | hxm
      · exact hnot x hxm
      · rw [List.mem_singleton.1 hxm]; exact g
  · have h' : k = l.length := by have : ¬ (k : Int) < (l.length : Int) := h; omega
    rw [h', List.take_length] at hnot
    refine endQ rfl rfl rfl ⟨.inl rfl, True.intro⟩ (Nat.le_refl 1) rfl ⟨-1, rfl, ⟨fun hh => by omega, fun ⟨x, hxm, hb⟩ => by rw [hnot x hxm] at hb; cases hb⟩⟩
theorem containsL_ok (tags : Nat) (l : List Nat) (ht : tags ≤ 16) (hl : l.length < 9223372036854775807) :
    ACalls Try.prog 26 [us l, fnL] (boxT tags) (RetH (bo (l.any (over tags))) (boxT tags)) := by
  refine acalls_of_awp hT mixed Try.func26 rfl (by kernel_rfl) (by kernel_rfl) (Nat.le_of_ble_eq_true rfl) ?_
  refine callQ (indexL_ok tags l ht hl) [0] rfl ⟨.inl rfl, True.intro⟩ rfl rfl (fun v hv => by obtain ⟨i, rfl, _⟩ := hv; rfl) ?_
  rintro v ⟨i, rfl, hi⟩
  have hany : l.any (over tags) = true ↔ ∃ x ∈ l, over tags x = true := List.any_eq_true
  refine forkD (fun h => ?_) (fun h => ?_)
  · refine endH rfl rfl rfl ⟨.inl rfl, True.intro⟩ (Nat.le_refl 1) rfl (congrArg bo ?_)
    exact (hany.2 (hi.1 h)).symm
  · refine endH rfl rfl rfl ⟨.inl rfl, True.intro⟩ (Nat.le_refl 1) rfl (congrArg bo ?_)
    cases hq : l.any (over tags)
    · rfl
    · exact absurd (hi.2 (hany.1 hq)) h
/-- What is loaded so far. -/
def ldG (P : Rg) (k : Nat) : Rg := P.take k ++ List.replicate (P.length - k) (0, 0)
theorem ldG_len {P : Rg} {k : Nat} (h : k ≤ P.length) : (ldG P k).length = P.length := by
  unfold ldG
  rw [List.length_append, List.length_take, List.length_replicate]
  omega
theorem ldG_zero (P : Rg) : ldG P 0 = nobody P.length := by simp [ldG, nobody]
theorem ldG_all (P : Rg) : ldG P P.length = P := by simp [ldG]
theorem ldG_set {P : Rg} {k : Nat} {r : Nat × Nat} (h : P[k]? = some r) : (ldG P k).set k r = ldG P (k + 1) := by
  have hk := (List.getElem?_eq_some_iff.1 h).1
  unfold ldG
  rw [take_snoc h, show P.length - k = (P.length - (k + 1)) + 1 by omega, List.replicate_succ, List.set_append_right _ _ (by rw [List.length_take]; omega), List.length_take, show k - min k P.length = 0 by omega, List.append_assoc]
  rfl
theorem rgC_setAll {g : Rg} {k : Nat} {r : Nat × Nat} (h : k < g.length) : setAll (rgC g) (0 + (k : Int).toNat * 2) [u64 r.1, u64 r.2] = rgC (g.set k r) := by
  obtain ⟨q, hq⟩ : ∃ q, g[k]? = some q := ⟨_, List.getElem?_eq_getElem h⟩
  simp only [setAll]
  rw [Int.toNat_natCast, Nat.zero_add, (rgC_set g k q r.1 hq).1]
  have hq2 : (g.set k (r.1, q.2))[k]? = some (r.1, q.2) := List.getElem?_set_self h
  rw [(rgC_set (g.set k (r.1, q.2)) k (r.1, q.2) r.2 hq2).2, List.set_set]
def Loads (tags : Int) (p m : List Nat) : Prop := 1 ≤ p.length ∧ p.length ≤ 8 ∧ m.length = p.length ∧ 0 ≤ tags ∧ tags ≤ 16 ∧ (∀ x ∈ p, x < 2 ^ tags.toNat) ∧ ∀ x ∈ m, x < 2 ^ tags.toNat
theorem any_over {tags : Nat} {l : List Nat} (h : l.any (over tags) = false) : ∀ x ∈ l, x < 2 ^ tags := by
  intro x hx
  rw [List.any_eq_false] at h
  have := h x hx
  unfold over at this
  by_cases hq : x < 2 ^ tags
  · exact hq
  · rw [decide_eq_false hq] at this
    exact absurd rfl this
theorem any_over' {tags : Nat} {l : List Nat} (h : l.any (over tags) = true) : ¬ ∀ x ∈ l, x < 2 ^ tags := by
  intro hh
  obtain ⟨x, hx, ho⟩ := List.any_eq_true.1 h
  unfold over at ho
  rw [decide_eq_true (hh x hx)] at ho
  cases ho
/-- The table that was loaded. -/
def ldH (tags : Nat) (P : Rg) : Heap := [.dead, .row (rgC P), .row [i64 tags, .slc 1 0 P.length 2]]
theorem belowL_rg (n : Nat) : ∀ l : Rg, belowL n (rgC l) = true
  | [] => rfl
  | x :: l => by
    show belowL n (u64 x.1 :: u64 x.2 :: rgC l) = true
    simp only [belowL, belowL_rg n l]
    rfl
theorem belowH_ld (tags : Nat) (P : Rg) : belowH (ldH tags P).length (ldH tags P) = true := by
  show (_ && (belowL 3 (rgC P) && _)) = true
  rw [belowL_rg]
  rfl
theorem loadBad_ok (tags : Int) (p m : List Nat) (hp : p.length < 1000000) (hm : m.length < 1000000) (h : ¬ Loads tags p m) : ACalls Try.prog 22 [i64 tags, us p, us m] [] (Ret (.tup [.sc (.pointer none), i64 1])) := by
  by_cases hn : 1 ≤ p.length ∧ p.length ≤ 8
  · refine acalls_of_awp hT mixed Try.func22 rfl (by kernel_rfl) (by kernel_rfl) (Nat.le_of_ble_eq_true rfl) ?_
    refine callH (new_ok p.length hn.1 hn.2) [] rfl True.intro rfl rfl (H' := [.row [i64 tags], .row (rgC (nobody p.length)), .row [i64 0, .slc 1 0 p.length 2]]) (by simp only [tabH, tabO, renH, renO_rg, nobody_len]; rfl) ?_
    refine fork (fun h1 => end0 rfl rfl rfl rfl) (fun h1 => ?_)
    have h1 := bne_eq_false_iff_eq.1 h1
    refine forkD (fun h2 => end0 rfl rfl rfl rfl) (fun h2 => ?_)
    refine forkD (fun h3 => end0 rfl rfl rfl rfl) (fun h3 => ?_)
    obtain ⟨t, rfl⟩ : ∃ t : Nat, tags = t := ⟨tags.toNat, by omega⟩
    refine callH (containsL_ok t p (by omega) (by omega)) [0] rfl ⟨.inl rfl, True.intro⟩ rfl rfl (H' := [.row [i64 t], .row (rgC (nobody p.length)), .row [i64 0, .slc 1 0 p.length 2]]) rfl ?_
    refine fork (fun h4 => end0 rfl rfl rfl rfl) (fun h4 => ?_)
    refine callH (containsL_ok t m (by omega) (by omega)) [0] rfl ⟨.inl rfl, True.intro⟩ rfl rfl (H' := [.row [i64 t], .row (rgC (nobody p.length)), .row [i64 0, .slc 1 0 p.length 2]]) rfl ?_
    refine fork (fun h5 => end0 rfl rfl rfl rfl) (fun h5 => ?_)
    exact absurd ⟨hn.1, hn.2, by omega, by omega, by omega, any_over h4, any_over h5⟩ h
  · refine acalls_of_awp hT mixed Try.func22 rfl (by kernel_rfl) (by kernel_rfl) (Nat.le_of_ble_eq_true rfl) ?_
    refine callP (newBad_ok p.length (by omega)) rfl rfl ?_
    refine end0 rfl rfl rfl rfl
theorem load_ok (tags : Nat) (p m : List Nat) (h : Loads tags p m) : ACalls Try.prog 22 [i64 tags, us p, us m] [] (RetH (.tup [.ptr 2 0, i64 0]) (ldH tags (p.zip m))) := by
  obtain ⟨hn1, hn2, hlen, _, ht, hp, hm⟩ := h
  rw [Int.toNat_natCast] at hp hm
  have hP : (p.zip m).length = p.length := by rw [List.length_zip]; omega
  refine acalls_of_awp hT mixed Try.func22 rfl (by kernel_rfl) (by kernel_rfl) (Nat.le_of_ble_eq_true rfl) ?_
  refine callH (new_ok p.length hn1 hn2) [] rfl True.intro rfl rfl (H' := [.row [i64 tags], .row (rgC (nobody p.length)), .row [i64 0, .slc 1 0 p.length 2]]) (by simp only [tabH, tabO, renH, renO_rg, nobody_len]; rfl) ?_
  refine fork (fun h1 => by have := bne_iff_ne.1 h1; omega) (fun h1 => ?_)
  refine forkD (fun h3 => by omega) (fun h3 => ?_)
  refine callH (containsL_ok tags p (by omega) (by omega)) [0] rfl ⟨.inl rfl, True.intro⟩ rfl rfl (H' := [.row [i64 tags], .row (rgC (nobody p.length)), .row [i64 0, .slc 1 0 p.length 2]]) rfl ?_
  refine fork (fun h4 => absurd hp (any_over' h4)) (fun h4 => ?_)
  refine callH (containsL_ok tags m (by omega) (by omega)) [0] rfl ⟨.inl rfl, True.intro⟩ rfl rfl (H' := [.row [i64 tags], .row (rgC (nobody p.length)), .row [i64 0, .slc 1 0 p.length 2]]) rfl ?_
  refine fork (fun h5 => absurd hm (any_over' h5)) (fun h5 => ?_)
  refine loopI (α := { k : Nat // k ≤ p.length }) (fun k => [(1, us p), (2, us m), (8, .ptr 2 0), (52, i64 p.length), (53, i64 (k.val : Nat))]) (fun k => [.row [i64 tags], .row (rgC (ldG (p.zip m) k.val)), .row [i64 tags, .slc 1 0 p.length 2]]) (fun k => p.length - k.val) ⟨0, Nat.zero_le _⟩ [0, 1, 2] ⟨⟨rfl, rfl, rfl, rfl, rfl, True.intro⟩, ⟨.inl rfl, .inl (by rw [renO_rg, ldG_zero, hP]; rfl), .inl rfl, True.intro⟩, rfl, rfl, rfl⟩ ?_
  rintro ⟨k, hk⟩ K hK
  have hinc : wrp .i64 ((k : Int) + 1) = ((k + 1 : Nat) : Int) := by rw [wrpE, wi64]; omega
  refine forkD (fun h => ?_) (fun h => ?_)
  · have h' : k < p.length := by have : (k : Int) < (p.length : Int) := h; omega
    obtain ⟨y, hy⟩ : ∃ y, p[k]? = some y := ⟨_, List.getElem?_eq_getElem h'⟩
    obtain ⟨z, hz⟩ : ∃ z, m[k]? = some z := ⟨_, List.getElem?_eq_getElem (by omega)⟩
    have hyz : (p.zip m)[k]? = some (y, z) := by rw [List.getElem?_zip_eq_some]; exact ⟨hy, hz⟩
    have hb := (show (0 : Int) ≤ (k : Nat) ∧ ((k : Nat) : Int) < (p.length : Nat) by omega)
    have hbm := (show (0 : Int) ≤ (k : Nat) ∧ ((k : Nat) : Int) < (m.length : Nat) by omega)
    have hgl := ldG_len (P := p.zip m) (k := k) (by omega)
    have hset := rgC_setAll (g := ldG (p.zip m) k) (k := k) (r := (y, z)) (by omega)
    rw [ldG_set hyz] at hset
    have hrl := rgC_len (ldG (p.zip m) k)
    refine ⟨[0, 0, 0, 0, 0, 0, 0, 0, 0, 0, 0, 0, 0, 0, 0, 1], [[], [0], [0, 1], [0, 1, 2], [], [], [], [5, 6], [5, 6, 7], [], [], [9, 10], [9, 10, 11], [5, 6, 7, 8, 9, 10, 11, 12], [0, 1, 2, 3, 4, 5, 6, 7, 8, 9, 10, 11, 12, 13], [0, 1, 2, 3, 4, 5, 6, 7, 8, 9, 10, 11, 12, 13, 14]], [0, 0, 0, 0, 0, 0, 0, 0, 0, 0, 0, 0, 0, 0, 0, 0], [15], [[8], [56], [57], [58], [11], [1], [11], [61, 62], [63], [2], [11], [65, 66], [67], [64, 68], [59, 60], [70, 69]], Ob.intro (by kernel_rfl) ?_⟩
    refine Ob.intro hb ?_
    refine optK_intro (nth_map hy) ?_
    refine Ob.intro hbm ?_
    refine optK_intro (nth_map hz) ?_
    refine Ob.intro hb ?_
    refine same ?_
    refine optK_intro (nth_map hy) ?_
    refine same ?_
    refine optK_intro (nth_map hz) ?_
    refine same ?_
    refine optK_intro (wr_eq (cs := rgC (ldG (p.zip m) k)) rfl (show 0 + (k : Int).toNat * 2 + 2 ≤ _ by rw [hrl, hgl, hP]; omega)) ?_
    repeat refine same ?_
    refine hK ⟨k + 1, h'⟩ [0, 1, 2] _ (show p.length - k = p.length - (k + 1) + 1 by omega) ⟨⟨rfl, rfl, rfl, rfl, congrArg i64 hinc, True.intro⟩, ⟨.inl rfl, .inl ?_, .inl rfl, True.intro⟩, rfl, rfl, rfl⟩
    rw [renO_rg]
    exact congrArg (fun z => some (AObj.row z)) hset
  · have h' : k = p.length := by have : ¬ (k : Int) < (p.length : Int) := h; omega
    refine endH rfl rfl rfl ⟨.inr rfl, .inl ?_, .inl ?_, True.intro⟩ (Nat.zero_le 3) (belowH_ld tags (p.zip m)) rfl
    · have : ldG (p.zip m) k = p.zip m := by rw [h', ← hP, ldG_all]
      exact congrArg (fun z => AObj.row (rgC z)) this.symm
    · exact congrArg (fun z => AObj.row [i64 tags, .slc 1 0 z 2]) hP
end Go.Proofs.Ytofinmlloefocaa.A
