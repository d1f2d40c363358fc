/- Both tables tell the same of anybody. No condition. -/
import Derived.Test.YtkbpddejafdmdaaCr
namespace Go.Proofs.Ytkbpddejafdmdaa.A
open Go
set_option linter.unusedVariables false
set_option maxRecDepth 100000
set_option pp.maxSteps 1500

/-- Both tables, side by side. -/
def twoH (p tags : Nat) (g : Rg) (L : List Rt) : Heap := [.row (rgC g), tabO tags g, .row (flat rtC L), .row [i64 p, i64 tags, .slc 2 0 L.length 3]]
theorem belowH_two (p tags : Nat) (g : Rg) (L : List Rt) : belowH (twoH p tags g L).length (twoH p tags g L) = true := by
  have : ∀ l : Rg, belowL 4 (rgC l) = true := by
    intro l
    induction l with
    | nil => rfl
    | cons x l ih =>
      show belowL 4 (u64 x.1 :: u64 x.2 :: rgC l) = true
      simp only [belowL, ih]
      rfl
  show (belowL 4 (rgC g) && (_ && (belowL 4 (flat rtC L) && _))) = true
  rw [this, belowL_flat (fun _ => rfl)]
  rfl
end Go.Proofs.Ytkbpddejafdmdaa.A

namespace Go.Proofs.Ytkbpddejafdmdaa.A
open Go
set_option linter.unusedVariables false
set_option maxRecDepth 100000
set_option pp.maxSteps 1500

theorem dd_field {L : List Dd} {k : Nat} {r : Dd} (h : L[k]? = some r) (off : Nat) (ho : off < 5) {v : AV} (hv : (ddC r)[off]? = some v) : nth (List.drop off ((ddsC L).drop ((k : Int).toNat * 5))) 0 = some v := by
  rw [Int.toNat_natCast, ddsC_drop L k r h, nth_eq, List.getElem?_drop, Nat.add_zero, List.getElem?_append_left (by show off < 5; exact ho)]
  exact hv
def PlaySt (n : Nat) : Type := { z : Nat × Nat × Rg × List Rt // z.1 ≤ 120 ∧ z.2.1 ≤ z.1 ∧ RgOk z.2.2.1 ∧ z.2.2.1.length = n ∧ Rel z.2.1 z.2.2.1 z.2.2.2 ∧ z.2.2.2.length ≤ 2 * z.1 }
theorem rel_new (n : Nat) : Rel 0 (nobody n) [] := by
  refine ⟨fun w x m hw => ?_, fun r hr => (by cases hr), by decide⟩
  have : maskOf (nobody n) w m = 0 := by
    unfold maskOf nobody
    rw [List.getElem?_replicate]
    cases m
    · by_cases hq : w.toNat < n
      · rw [if_pos hq]; rfl
      · rw [if_neg hq]; rfl
    · by_cases hq : w.toNat < n
      · rw [if_pos hq]; rfl
      · rw [if_neg hq]; rfl
  unfold hasR hasS
  rw [this, Nat.zero_and]
  simp
theorem doL_len {tags : Nat} {L : List Rt} {e k w t : Int} {x : Nat} {m : Bool} : (doL tags L e k w t x m).length ≤ L.length + 2 := by
  unfold doL
  split
  · split <;> simp
  · omega
end Go.Proofs.Ytkbpddejafdmdaa.A

namespace Go.Proofs.Ytkbpddejafdmdaa.A
open Go
set_option linter.unusedVariables false
set_option maxRecDepth 100000
set_option pp.maxSteps 1500

def boxT (tags : Nat) : Heap := [.row [i64 tags]]
def over (tags x : Nat) : Bool := !decide (x < 2 ^ tags)
theorem shr64 {tags x : Nat} (ht : tags ≤ 16) : hd ((x : Int).fdiv (2 ^ min (wrp .u64 (tags : Int)).toNat IntKind.u64.bits)) = ((x / 2 ^ tags : Nat) : Int) := by
  have e1 : wrp .u64 (tags : Int) = (tags : Int) := by rw [wrpE, wu64]; omega
  have e2 : min (tags : Int).toNat IntKind.u64.bits = tags := by
    have : IntKind.u64.bits = 64 := rfl
    rw [this]
    omega
  rw [hd_eq, e1, e2, Int.fdiv_eq_ediv_of_nonneg _ (Int.pow_nonneg (by decide))]
  have : ((2 : Int) ^ tags) = ((2 ^ tags : Nat) : Int) := by simp
  rw [this]
  rfl
theorem over1_ok (tags x : Nat) (ht : tags ≤ 16) : ACalls Try.prog 88 [u64 x, .ptr 0 0] (boxT tags) (RetH (bo (over tags x)) (boxT tags)) := by
  have hs := shr64 (x := x) ht
  have hp : 0 < 2 ^ tags := Nat.pow_pos (by decide)
  have e1 : wrp .u64 (tags : Int) = (tags : Int) := by rw [wrpE, wu64]; omega
  refine acalls_of_awp hT mixed Try.func88 rfl (by kernel_rfl) (by kernel_rfl) (Nat.le_of_ble_eq_true rfl) ?_
  refine Ob.intro (by rw [e1]; omega) ?_
  refine fork (fun h => ?_) (fun h => ?_)
  · refine endH rfl rfl rfl ⟨.inl rfl, True.intro⟩ (Nat.le_refl 1) rfl (congrArg bo ?_)
    rw [hs] at h
    have h := bne_iff_ne.1 h
    unfold over
    rw [decide_eq_false (fun hl => h (by rw [Nat.div_eq_of_lt hl]; rfl))]
    rfl
  · refine endH rfl rfl rfl ⟨.inl rfl, True.intro⟩ (Nat.le_refl 1) rfl (congrArg bo ?_)
    rw [hs] at h
    have h := bne_eq_false_iff_eq.1 h
    unfold over
    rw [decide_eq_true ((Nat.div_eq_zero_iff_lt hp).1 (by omega))]
    rfl
def fnL : AV := .fn (.func 88) [.ptr 0 0]
theorem indexL_ok (tags : Nat) (l : List Nat) (ht : tags ≤ 16) (hl : l.length < 9223372036854775807) :
    ACalls Try.prog 103 [us l, fnL] (boxT tags) (fun E G => ∃ v, IdxR (∃ x ∈ l, over tags x = true) v ∧ E = .ret v ∧ G = boxT tags) := by
  refine acalls_of_awp hT mixed Try.func103 rfl (by kernel_rfl) (by kernel_rfl) (Nat.le_of_ble_eq_true rfl) ?_
  refine loopI (α := { k : Nat // k ≤ l.length ∧ ∀ x ∈ l.take k, over tags x = false }) (fun k => [(0, us l), (1, fnL), (7, i64 l.length), (8, i64 (k.val : Nat))]) (fun _ => boxT tags) (fun k => l.length - k.val) ⟨0, Nat.zero_le _, by simp⟩ [0] ⟨⟨rfl, rfl, rfl, rfl, True.intro⟩, ⟨.inl rfl, True.intro⟩, rfl, rfl, rfl⟩ ?_
  intro z K hK
  obtain ⟨k, hk, hnot⟩ := z
  have hinc : wrp .i64 ((k : Int) + 1) = ((k + 1 : Nat) : Int) := by rw [wrpE, wi64]; omega
  refine forkD (fun h => ?_) (fun h => ?_)
  · have h' : k < l.length := by have : (k : Int) < (l.length : Int) := h; omega
    obtain ⟨y, hy⟩ : ∃ y, l[k]? = some y := ⟨_, List.getElem?_eq_getElem h'⟩
    have hc := over1_ok tags y ht
    refine Ob.intro (show (0 : Int) ≤ (k : Nat) ∧ ((k : Nat) : Int) < (l.length : Nat) by omega) ?_
    refine optK_intro (nth_map hy) ?_
    refine callH hc [0] rfl ⟨.inl rfl, True.intro⟩ rfl rfl (H' := boxT tags) rfl ?_
    refine fork (fun g => ?_) (fun g => ?_)
    · refine endQ rfl rfl rfl ⟨.inl rfl, True.intro⟩ (Nat.le_refl 1) rfl ⟨k, rfl, ⟨fun _ => ⟨y, List.mem_of_getElem? hy, g⟩, fun _ => by omega⟩⟩
    · refine hK ⟨k + 1, h', ?_⟩ [0] _ (show l.length - k = l.length - (k + 1) + 1 by omega) ⟨⟨rfl, rfl, rfl, congrArg i64 hinc, True.intro⟩, ⟨.inl rfl, True.intro⟩, rfl, rfl, rfl⟩
      rw [take_snocA hy]
      intro x hxm
      rcases List.mem_append.1 hxm with hxm | hxm
      · exact hnot x hxm
      · rw [List.mem_singleton.1 hxm]; exact g
  · have h' : k = l.length := by have : ¬ (k : Int) < (l.length : Int) := h; omega
    rw [h', List.take_length] at hnot
    refine endQ rfl rfl rfl ⟨.inl rfl, True.intro⟩ (Nat.le_refl 1) rfl ⟨-1, rfl, ⟨fun hh => by omega, fun ⟨x, hxm, hb⟩ => by rw [hnot x hxm] at hb; cases hb⟩⟩
theorem containsL_ok (tags : Nat) (l : List Nat) (ht : tags ≤ 16) (hl : l.length < 9223372036854775807) :
    ACalls Try.prog 89 [us l, fnL] (boxT tags) (RetH (bo (l.any (over tags))) (boxT tags)) := by
  refine acalls_of_awp hT mixed Try.func89 rfl (by kernel_rfl) (by kernel_rfl) (Nat.le_of_ble_eq_true rfl) ?_
  refine callQ (indexL_ok tags l ht hl) [0] rfl ⟨.inl rfl, True.intro⟩ rfl rfl (fun v hv => by obtain ⟨i, rfl, _⟩ := hv; rfl) ?_
  rintro v ⟨i, rfl, hi⟩
  have hany : l.any (over tags) = true ↔ ∃ x ∈ l, over tags x = true := List.any_eq_true
  refine forkD (fun h => ?_) (fun h => ?_)
  · refine endH rfl rfl rfl ⟨.inl rfl, True.intro⟩ (Nat.le_refl 1) rfl (congrArg bo ?_)
    exact (hany.2 (hi.1 h)).symm
  · refine endH rfl rfl rfl ⟨.inl rfl, True.intro⟩ (Nat.le_refl 1) rfl (congrArg bo ?_)
    cases hq : l.any (over tags)
    · rfl
    · exact absurd (hi.2 (hany.1 hq)) h
/-- What is loaded so far. -/
def ldG (P : Rg) (k : Nat) : Rg := P.take k ++ List.replicate (P.length - k) (0, 0)
theorem ldG_len {P : Rg} {k : Nat} (h : k ≤ P.length) : (ldG P k).length = P.length := by
  unfold ldG
  rw [List.length_append, List.length_take, List.length_replicate]
  omega
theorem ldG_zero (P : Rg) : ldG P 0 = nobody P.length := by simp [ldG, nobody]
theorem ldG_all (P : Rg) : ldG P P.length = P := by simp [ldG]
theorem ldG_set {P : Rg} {k : Nat} {r : Nat × Nat} (h : P[k]? = some r) : (ldG P k).set k r = ldG P (k + 1) := by
  have hk := (List.getElem?_eq_some_iff.1 h).1
  unfold ldG
  rw [take_snocA h, show P.length - k = (P.length - (k + 1)) + 1 by omega, List.replicate_succ, List.set_append_right _ _ (by rw [List.length_take]; omega), List.length_take, show k - min k P.length = 0 by omega, List.append_assoc]
  rfl
theorem rgC_setAll {g : Rg} {k : Nat} {r : Nat × Nat} (h : k < g.length) : setAll (rgC g) (0 + (k : Int).toNat * 2) [u64 r.1, u64 r.2] = rgC (g.set k r) := by
  obtain ⟨q, hq⟩ : ∃ q, g[k]? = some q := ⟨_, List.getElem?_eq_getElem h⟩
  simp only [setAll]
  rw [Int.toNat_natCast, Nat.zero_add, (rgC_set g k q r.1 hq).1]
  have hq2 : (g.set k (r.1, q.2))[k]? = some (r.1, q.2) := List.getElem?_set_self h
  rw [(rgC_set (g.set k (r.1, q.2)) k (r.1, q.2) r.2 hq2).2, List.set_set]
def Loads (tags : Int) (p m : List Nat) : Prop := 1 ≤ p.length ∧ p.length ≤ 8 ∧ m.length = p.length ∧ 0 ≤ tags ∧ tags ≤ 16 ∧ (∀ x ∈ p, x < 2 ^ tags.toNat) ∧ ∀ x ∈ m, x < 2 ^ tags.toNat
theorem any_over {tags : Nat} {l : List Nat} (h : l.any (over tags) = false) : ∀ x ∈ l, x < 2 ^ tags := by
  intro x hx
  rw [List.any_eq_false] at h
  have := h x hx
  unfold over at this
  by_cases hq : x < 2 ^ tags
  · exact hq
  · rw [decide_eq_false hq] at this
    exact absurd rfl this
theorem any_over' {tags : Nat} {l : List Nat} (h : l.any (over tags) = true) : ¬ ∀ x ∈ l, x < 2 ^ tags := by
  intro hh
  obtain ⟨x, hx, ho⟩ := List.any_eq_true.1 h
  unfold over at ho
  rw [decide_eq_true (hh x hx)] at ho
  cases ho
/-- The table that was loaded. -/
def ldH (tags : Nat) (P : Rg) : Heap := [.dead, .row (rgC P), .row [i64 tags, .slc 1 0 P.length 2]]
theorem belowL_rg (n : Nat) : ∀ l : Rg, belowL n (rgC l) = true
  | [] => rfl
  | x :: l => by
    show belowL n (u64 x.1 :: u64 x.2 :: rgC l) = true
    simp only [belowL, belowL_rg n l]
    rfl
theorem belowH_ld (tags : Nat) (P : Rg) : belowH (ldH tags P).length (ldH tags P) = true := by
  show (_ && (belowL 3 (rgC P) && _)) = true
  rw [belowL_rg]
  rfl
theorem loadBad_ok (tags : Int) (p m : List Nat) (hp : p.length < 1000000) (hm : m.length < 1000000) (h : ¬ Loads tags p m) : ACalls Try.prog 74 [i64 tags, us p, us m] [] (Ret (.tup [.sc (.pointer none), i64 1])) := by
  by_cases hn : 1 ≤ p.length ∧ p.length ≤ 8
  · refine acalls_of_awp hT mixed Try.func74 rfl (by kernel_rfl) (by kernel_rfl) (Nat.le_of_ble_eq_true rfl) ?_
    refine callH (new_ok p.length hn.1 hn.2) [] rfl True.intro rfl rfl (H' := [.row [i64 tags], .row (rgC (nobody p.length)), .row [i64 0, .slc 1 0 p.length 2]]) (by simp only [tabH, tabO, renH, renO_rg, nobody_len]; rfl) ?_
    refine fork (fun h1 => end0 rfl rfl rfl rfl) (fun h1 => ?_)
    have h1 := bne_eq_false_iff_eq.1 h1
    refine forkD (fun h2 => end0 rfl rfl rfl rfl) (fun h2 => ?_)
    refine forkD (fun h3 => end0 rfl rfl rfl rfl) (fun h3 => ?_)
    obtain ⟨t, rfl⟩ : ∃ t : Nat, tags = t := ⟨tags.toNat, by omega⟩
    refine callH (containsL_ok t p (by omega) (by omega)) [0] rfl ⟨.inl rfl, True.intro⟩ rfl rfl (H' := [.row [i64 t], .row (rgC (nobody p.length)), .row [i64 0, .slc 1 0 p.length 2]]) rfl ?_
    refine fork (fun h4 => end0 rfl rfl rfl rfl) (fun h4 => ?_)
    refine callH (containsL_ok t m (by omega) (by omega)) [0] rfl ⟨.inl rfl, True.intro⟩ rfl rfl (H' := [.row [i64 t], .row (rgC (nobody p.length)), .row [i64 0, .slc 1 0 p.length 2]]) rfl ?_
    refine fork (fun h5 => end0 rfl rfl rfl rfl) (fun h5 => ?_)
    exact absurd ⟨hn.1, hn.2, by omega, by omega, by omega, any_over h4, any_over h5⟩ h
  · refine acalls_of_awp hT mixed Try.func74 rfl (by kernel_rfl) (by kernel_rfl) (Nat.le_of_ble_eq_true rfl) ?_
    refine callP (newBad_ok p.length (by omega)) rfl rfl ?_
    refine end0 rfl rfl rfl rfl
theorem load_ok (tags : Nat) (p m : List Nat) (h : Loads tags p m) : ACalls Try.prog 74 [i64 tags, us p, us m] [] (RetH (.tup [.ptr 2 0, i64 0]) (ldH tags (p.zip m))) := by
  obtain ⟨hn1, hn2, hlen, _, ht, hp, hm⟩ := h
  rw [Int.toNat_natCast] at hp hm
  have hP : (p.zip m).length = p.length := by rw [List.length_zip]; omega
  refine acalls_of_awp hT mixed Try.func74 rfl (by kernel_rfl) (by kernel_rfl) (Nat.le_of_ble_eq_true rfl) ?_
  refine callH (new_ok p.length hn1 hn2) [] rfl True.intro rfl rfl (H' := [.row [i64 tags], .row (rgC (nobody p.length)), .row [i64 0, .slc 1 0 p.length 2]]) (by simp only [tabH, tabO, renH, renO_rg, nobody_len]; rfl) ?_
  refine fork (fun h1 => by have := bne_iff_ne.1 h1; omega) (fun h1 => ?_)
  refine forkD (fun h3 => by omega) (fun h3 => ?_)
  refine callH (containsL_ok tags p (by omega) (by omega)) [0] rfl ⟨.inl rfl, True.intro⟩ rfl rfl (H' := [.row [i64 tags], .row (rgC (nobody p.length)), .row [i64 0, .slc 1 0 p.length 2]]) rfl ?_
  refine fork (fun h4 => absurd hp (any_over' h4)) (fun h4 => ?_)
  refine callH (containsL_ok tags m (by omega) (by omega)) [0] rfl ⟨.inl rfl, True.intro⟩ rfl rfl (H' := [.row [i64 tags], .row (rgC (nobody p.length)), .row [i64 0, .slc 1 0 p.length 2]]) rfl ?_
  refine fork (fun h5 => absurd hm (any_over' h5)) (fun h5 => ?_)
  refine loopI (α := { k : Nat // k ≤ p.length }) (fun k => [(1, us p), (2, us m), (8, .ptr 2 0), (52, i64 p.length), (53, i64 (k.val : Nat))]) (fun k => [.row [i64 tags], .row (rgC (ldG (p.zip m) k.val)), .row [i64 tags, .slc 1 0 p.length 2]]) (fun k => p.length - k.val) ⟨0, Nat.zero_le _⟩ [0, 1, 2] ⟨⟨rfl, rfl, rfl, rfl, rfl, True.intro⟩, ⟨.inl rfl, .inl (by rw [renO_rg, ldG_zero, hP]; rfl), .inl rfl, True.intro⟩, rfl, rfl, rfl⟩ ?_
  rintro ⟨k, hk⟩ K hK
  have hinc : wrp .i64 ((k : Int) + 1) = ((k + 1 : Nat) : Int) := by rw [wrpE, wi64]; omega
  refine forkD (fun h => ?_) (fun h => ?_)
  · have h' : k < p.length := by have : (k : Int) < (p.length : Int) := h; omega
    obtain ⟨y, hy⟩ : ∃ y, p[k]? = some y := ⟨_, List.getElem?_eq_getElem h'⟩
    obtain ⟨z, hz⟩ : ∃ z, m[k]? = some z := ⟨_, List.getElem?_eq_getElem (by omega)⟩
    have hyz : (p.zip m)[k]? = some (y, z) := by rw [List.getElem?_zip_eq_some]; exact ⟨hy, hz⟩
    have hb := (show (0 : Int) ≤ (k : Nat) ∧ ((k : Nat) : Int) < (p.length : Nat) by omega)
    have hbm := (show (0 : Int) ≤ (k : Nat) ∧ ((k : Nat) : Int) < (m.length : Nat) by omega)
    have hgl := ldG_len (P := p.zip m) (k := k) (by omega)
    have hset := rgC_setAll (g := ldG (p.zip m) k) (k := k) (r := (y, z)) (by omega)
    rw [ldG_set hyz] at hset
    have hrl := rgC_len (ldG (p.zip m) k)
    refine ⟨[0, 0, 0, 0, 0, 0, 0, 0, 0, 0, 0, 0, 0, 0, 0, 1], [[], [0], [0, 1], [0, 1, 2], [], [], [], [5, 6], [5, 6, 7], [], [], [9, 10], [9, 10, 11], [5, 6, 7, 8, 9, 10, 11, 12], [0, 1, 2, 3, 4, 5, 6, 7, 8, 9, 10, 11, 12, 13], [0, 1, 2, 3, 4, 5, 6, 7, 8, 9, 10, 11, 12, 13, 14]], [0, 0, 0, 0, 0, 0, 0, 0, 0, 0, 0, 0, 0, 0, 0, 0], [15], [[8], [56], [57], [58], [11], [1], [11], [61, 62], [63], [2], [11], [65, 66], [67], [64, 68], [59, 60], [70, 69]], Ob.intro (by kernel_rfl) ?_⟩
    refine Ob.intro hb ?_
    refine optK_intro (nth_map hy) ?_
    refine Ob.intro hbm ?_
    refine optK_intro (nth_map hz) ?_
    refine Ob.intro hb ?_
    refine same ?_
    refine optK_intro (nth_map hy) ?_
    refine same ?_
    refine optK_intro (nth_map hz) ?_
    refine same ?_
    refine optK_intro (wr_eq (cs := rgC (ldG (p.zip m) k)) rfl (show 0 + (k : Int).toNat * 2 + 2 ≤ _ by rw [hrl, hgl, hP]; omega)) ?_
    repeat refine same ?_
    refine hK ⟨k + 1, h'⟩ [0, 1, 2] _ (show p.length - k = p.length - (k + 1) + 1 by omega) ⟨⟨rfl, rfl, rfl, rfl, congrArg i64 hinc, True.intro⟩, ⟨.inl rfl, .inl ?_, .inl rfl, True.intro⟩, rfl, rfl, rfl⟩
    rw [renO_rg]
    exact congrArg (fun z => some (AObj.row z)) hset
  · have h' : k = p.length := by have : ¬ (k : Int) < (p.length : Int) := h; omega
    refine endH rfl rfl rfl ⟨.inr rfl, .inl ?_, .inl ?_, True.intro⟩ (Nat.zero_le 3) (belowH_ld tags (p.zip m)) rfl
    · have : ldG (p.zip m) k = p.zip m := by rw [h', ← hP, ldG_all]
      exact congrArg (fun z => AObj.row (rgC z)) this.symm
    · exact congrArg (fun z => AObj.row [i64 tags, .slc 1 0 z 2]) hP
end Go.Proofs.Ytkbpddejafdmdaa.A

namespace Go.Proofs.Ytkbpddejafdmdaa.A
open Go
set_option linter.unusedVariables false
set_option maxRecDepth 100000
set_option pp.maxSteps 1500

def bitAt (p m : List Nat) (w : Int) (x : Nat) (c : Bool) : Prop := 0 ≤ w ∧ ∃ q, (if c = true then m else p)[w.toNat]? = some q ∧ q.testBit (x - 1) = true
/-- As far as rights were made: of those before one all, of one those below a tag. -/
def Made (t : Nat) (p m : List Nat) (who tag : Nat) (L : List Rt) : Prop := ∀ w x c, (w, x, c) ∈ L ↔ 1 ≤ x ∧ bitAt p m w x c ∧ ((w < (who : Int) ∧ x ≤ t) ∨ (w = (who : Int) ∧ x < tag))
def Gone (t : Nat) (p m : List Nat) (who : Nat) : Prop := ∀ k a b, k < who → p[k]? = some a → m[k]? = some b → a < 2 ^ t ∧ b < 2 ^ t
structure LdIn (t : Nat) (p m : List Nat) (who : Nat) (pw mw : Nat) : Type where
  tag : Nat
  L : List Rt
  lo : 1 ≤ tag
  hi : tag ≤ t + 1
  made : Made t p m who tag L
  len : L.length ≤ 2 * t * who + 2 * (tag - 1)
structure LdOut (t : Nat) (p m : List Nat) : Type where
  who : Nat
  L : List Rt
  hi : who ≤ p.length
  made : Made t p m who 1 L
  gone : Gone t p m who
  len : L.length ≤ 2 * t * who
theorem made_zero (t : Nat) (p m : List Nat) : Made t p m 0 1 [] := fun w x c => ⟨fun h => (by cases h), fun ⟨h1, ⟨h0, _⟩, h2⟩ => by omega⟩
theorem made_next {t : Nat} {p m : List Nat} {who : Nat} {L : List Rt} (h : Made t p m who (t + 1) L) : Made t p m (who + 1) 1 L := fun w x c => (h w x c).trans ⟨fun ⟨h1, h2, h3⟩ => ⟨h1, h2, by omega⟩, fun ⟨h1, h2, h3⟩ => ⟨h1, h2, by omega⟩⟩
/-- A bit's right, if there is the bit. -/
def put (L : List Rt) (who tag a : Nat) (c : Bool) : List Rt := if a % 2 = 1 then L ++ [((who : Int), tag, c)] else L
theorem put_len {L : List Rt} {who tag a : Nat} {c : Bool} : (put L who tag a c).length ≤ L.length + 1 := by
  unfold put
  split <;> simp
theorem mem_put {L : List Rt} {who tag a : Nat} {c : Bool} {r : Rt} : r ∈ put L who tag a c ↔ r ∈ L ∨ (a % 2 = 1 ∧ r = ((who : Int), tag, c)) := by
  unfold put
  split
  · rename_i h
    simp [h]
  · rename_i h
    simp [h]
theorem testBit_half (q tag : Nat) : (q / 2 ^ (tag - 1) % 2 = 1) ↔ q.testBit (tag - 1) = true := by
  rw [Nat.testBit_eq_decide_div_mod_eq]
  exact decide_eq_true_iff.symm
theorem made_put {t : Nat} {p m : List Nat} {who tag : Nat} {L : List Rt} {pw mw : Nat} (hp : p[who]? = some pw) (hm : m[who]? = some mw) (h1 : 1 ≤ tag) (h2 : tag ≤ t) (h : Made t p m who tag L) :
    Made t p m who (tag + 1) (put (put L who tag (pw / 2 ^ (tag - 1)) false) who tag (mw / 2 ^ (tag - 1)) true) := by
  intro w x c
  rw [mem_put, mem_put, h w x c, testBit_half, testBit_half]
  have hat : ∀ c, bitAt p m (who : Int) tag c ↔ (if c = true then mw else pw).testBit (tag - 1) = true := fun c => by
    unfold bitAt
    rw [Int.toNat_natCast]
    cases c
    · simp [hp]
    · simp [hm]
  constructor
  · rintro ((⟨h3, h4, h5⟩ | ⟨h3, h4⟩) | ⟨h3, h4⟩)
    · exact ⟨h3, h4, by omega⟩
    · cases h4
      exact ⟨h1, (hat false).2 h3, by omega⟩
    · cases h4
      exact ⟨h1, (hat true).2 h3, by omega⟩
  · rintro ⟨h3, h4, h5⟩
    by_cases hx : w = (who : Int) ∧ x = tag
    · obtain ⟨rfl, rfl⟩ := hx
      have h6 := (hat c).1 h4
      cases c
      · exact .inl (.inr ⟨h6, rfl⟩)
      · exact .inr ⟨h6, rfl⟩
    · exact .inl (.inl ⟨h3, h4, by omega⟩)
def loadR (tags : Int) (p m : List Nat) : AEnd → Heap → Prop := fun E G =>
  (Loads tags p m ∧ ∃ L, Made tags.toNat p m p.length 1 L ∧ L.length ≤ 2 * tags.toNat * p.length ∧ E = .ret (.tup [.ptr 1 0, bo true]) ∧ G = refH p.length tags.toNat L) ∨ (¬ Loads tags p m ∧ E = .ret (.tup [.sc (.pointer none), bo false]) ∧ G = [])
theorem half {a : Nat} (ha : a < 18446744073709551616) : (hd ((a : Int).tmod 2) == 1) = decide (a % 2 = 1) ∧ wrp .u64 ((a : Int).tdiv 2) = ((a / 2 : Nat) : Int) := by
  have e1 : (a : Int).tmod 2 = ((a % 2 : Nat) : Int) := by rw [Int.tmod_eq_emod_of_nonneg (by omega)]; omega
  have e2 : (a : Int).tdiv 2 = ((a / 2 : Nat) : Int) := by rw [Int.tdiv_eq_ediv_of_nonneg (by omega)]; omega
  refine ⟨?_, ?_⟩
  · rw [hd_eq, e1]
    by_cases h : a % 2 = 1
    · rw [h]; rfl
    · rw [decide_eq_false h, show a % 2 = 0 by omega]; rfl
  · rw [e2, wrpE, wu64]
    omega
end Go.Proofs.Ytkbpddejafdmdaa.A

namespace Go.Proofs.Ytkbpddejafdmdaa.A
open Go
set_option linter.unusedVariables false
set_option maxRecDepth 100000
set_option pp.maxSteps 1500

/-- No mask has a tag that was not made. -/
def MT (tags : Nat) (g : Rg) : Prop := ∀ r ∈ g, r.1 < 2 ^ tags ∧ r.2 < 2 ^ tags
theorem bitS_mt {x t : Nat} (h : x ≤ t) : bitS x < 2 ^ t ∨ bitS x = 0 := by
  unfold bitS
  split
  · exact .inr rfl
  · exact .inl (Nat.pow_lt_pow_right (by decide) (by omega))
theorem or_mt {a x t : Nat} (ha : a < 2 ^ t) (h : x ≤ t) : a ||| bitS x < 2 ^ t := by
  rcases bitS_mt h with h1 | h1
  · exact Nat.or_lt_two_pow ha h1
  · rw [h1, Nat.or_zero]; exact ha
theorem mt_set {t : Nat} {g : Rg} {w : Int} {m : Bool} {x : Nat} (h : MT t g) (hx : x ≤ t) : MT t (setR g w m x) := by
  unfold setR
  split
  · rename_i r hr
    have hr := h r (List.mem_of_getElem? hr)
    intro z hz
    rcases List.mem_or_eq_of_mem_set hz with hz | hz
    · exact h z hz
    · subst hz
      split
      · exact ⟨hr.1, or_mt hr.2 hx⟩
      · exact ⟨or_mt hr.1 hx, hr.2⟩
  · exact h
theorem mt_up {t : Nat} {g : Rg} (h : MT t g) : MT (t + 1) g := fun r hr => by
  have hp : 2 ^ t ≤ 2 ^ (t + 1) := Nat.pow_le_pow_right (by decide) (by omega)
  have := h r hr
  omega
theorem mt_do {tags : Nat} {g : Rg} {e k w t : Int} {x : Nat} {m : Bool} (h : MT tags g) (he : checkE tags g k w t x m = e) : MT (doTags tags e k) (doG tags g e k w t x m) := by
  unfold doTags doG
  by_cases h0 : e = 0
  · rw [h0] at he ⊢
    rcases check_zero he with ⟨hk, _⟩ | ⟨hk, _, _, hx1, hx2, _⟩
    · rw [if_pos ⟨rfl, by omega⟩, if_pos rfl, if_neg (by omega)]
      exact mt_set (mt_set (mt_up h) (Nat.le_refl _)) (Nat.le_refl _)
    · rw [if_neg (by omega), if_pos rfl, if_pos hk]
      exact mt_set h hx2
  · rw [if_neg (fun hh => h0 hh.1), if_neg h0]
    exact h
theorem mask_mt {t : Nat} {g : Rg} (h : MT t g) (w : Int) (m : Bool) : maskOf g w m < 2 ^ t := by
  unfold maskOf
  cases hq : g[w.toNat]? with
  | none => exact Nat.pow_pos (by decide)
  | some r =>
    have := h r (List.mem_of_getElem? hq)
    show (if m = true then r.2 else r.1) < _
    split
    · exact this.2
    · exact this.1
theorem loads_masks {t : Nat} {g : Rg} (h : MT t g) (h1 : 1 ≤ g.length) (h8 : g.length ≤ 8) (ht : t ≤ 16) : Loads t (plusL g) (minusL g) := by
  refine ⟨by rw [plusL_len]; exact h1, by rw [plusL_len]; exact h8, by rw [plusL_len, minusL_len], by omega, by omega, fun x hx => ?_, fun x hx => ?_⟩
  · obtain ⟨r, hr, rfl⟩ := List.mem_map.1 hx
    exact (h r hr).1
  · obtain ⟨r, hr, rfl⟩ := List.mem_map.1 hx
    exact (h r hr).2
theorem zip_masks : ∀ g : Rg, (plusL g).zip (minusL g) = g
  | [] => rfl
  | r :: g => by
    show (r.1, r.2) :: (plusL g).zip (minusL g) = r :: g
    rw [zip_masks g]
theorem rel_load {t : Nat} {p m : List Nat} {L : List Rt} (h : Loads t p m) (hm : Made t p m p.length 1 L) : Rel t (p.zip m) L ∧ MT t (p.zip m) ∧ (p.zip m).length = p.length := by
  obtain ⟨h1, h8, hl, _, ht, hp, hmm⟩ := h
  rw [Int.toNat_natCast] at hp hmm
  have hlen : (p.zip m).length = p.length := by rw [List.length_zip]; omega
  have hmt : MT t (p.zip m) := fun r hr => by
    obtain ⟨k, hk, rfl⟩ := List.getElem_of_mem hr
    have := List.getElem?_zip_eq_some.1 (List.getElem?_eq_getElem hk)
    exact ⟨hp _ (List.mem_of_getElem? this.1), hmm _ (List.mem_of_getElem? this.2)⟩
  refine ⟨⟨fun w x c hw => ?_, fun r hr => ?_, by omega⟩, hmt, hlen⟩
  · have hw := of_decide_eq_true hw
    rw [hlen] at hw
    have hlt := mask_mt hmt w c
    have hpow : ∀ i, t ≤ i → (maskOf (p.zip m) w c).testBit i = false := fun i hi => Nat.testBit_lt_two_pow (Nat.lt_of_lt_of_le hlt (Nat.pow_le_pow_right (by decide) hi))
    have hmask : (if c = true then m else p)[w.toNat]? = some (maskOf (p.zip m) w c) := by
      obtain ⟨a, ha⟩ : ∃ a, p[w.toNat]? = some a := ⟨_, List.getElem?_eq_getElem (by omega)⟩
      obtain ⟨b, hb⟩ : ∃ b, m[w.toNat]? = some b := ⟨_, List.getElem?_eq_getElem (by omega)⟩
      have hz : (p.zip m)[w.toNat]? = some (a, b) := List.getElem?_zip_eq_some.2 ⟨ha, hb⟩
      unfold maskOf
      rw [hz]
      cases c
      · exact ha
      · exact hb
    unfold hasR
    rw [hasS_bit, Bool.eq_iff_iff, Bool.and_eq_true, decide_eq_true_iff, decide_eq_true_iff, hm w x c]
    unfold bitAt
    constructor
    · rintro ⟨hx, hb⟩
      refine ⟨hx.1, ⟨hw.1, _, hmask, hb⟩, .inl ⟨hw.2, ?_⟩⟩
      rcases Nat.lt_or_ge (x - 1) t with h3 | h3
      · omega
      · rw [hpow _ h3] at hb; cases hb
    · rintro ⟨hx, ⟨_, q, hq, hb⟩, hor⟩
      rw [hmask] at hq
      cases hq
      exact ⟨by omega, hb⟩
  · obtain ⟨w, x, c⟩ := r
    obtain ⟨hx, ⟨h0, q, hq, hb⟩, hor⟩ := (hm w x c).1 hr
    refine ⟨decide_eq_true (by rw [hlen]; omega), hx, by show x ≤ t; omega⟩
theorem mod_succ (q k : Nat) : q % 2 ^ (k + 1) = q % 2 ^ k + 2 ^ k * (q.testBit k).toNat := by
  rw [Nat.pow_succ, Nat.mod_mul, Nat.testBit_eq_decide_div_mod_eq]
  congr 2
  rcases Nat.mod_two_eq_zero_or_one (q / 2 ^ k) with h | h <;> rw [h] <;> rfl
theorem mask_ok (p tags : Nat) (L : List Rt) (w : Int) (c : Bool) (q : Nat) (hL : L.length < 9223372036854775807) (hq16 : q < 2 ^ 16) (hq : ∀ k, k < 16 → decide ((w, k + 1, c) ∈ L) = q.testBit k) :
    ACalls Try.prog 54 [.ptr 1 0, i64 w, bo c] (refH p tags L) (RetH (u64 q) (refH p tags L)) := by
  cases c
  · refine acalls_of_awp hT mixed Try.func54 rfl (by kernel_rfl) (by kernel_rfl) (Nat.le_of_ble_eq_true rfl) ?_
    refine loopI (α := { k : Nat // k ≤ 16 }) (fun k => [(0, .ptr 1 0), (1, i64 w), (2, bo false), (7, u64 (q % 2 ^ k.val : Nat)), (8, u64 (2 ^ k.val : Nat)), (9, u64 (k.val + 1 : Nat))]) (fun _ => refH p tags L) (fun k => 16 - k.val) ⟨0, Nat.zero_le _⟩ [0, 1] ⟨⟨rfl, rfl, rfl, congrArg u64 (show (0 : Int) = ((q % 2 ^ 0 : Nat) : Int) by rw [Nat.pow_zero, Nat.mod_one]; rfl), rfl, rfl, True.intro⟩, ⟨.inl (by rw [renO_rt]; rfl), .inl rfl, True.intro⟩, rfl, rfl, rfl⟩ ?_
    rintro ⟨k, hk⟩ K hK
    have hinc : wrp .u64 (((k + 1 : Nat) : Int) + 1) = ((k + 1 + 1 : Nat) : Int) := by rw [wrpE, wu64]; omega
    refine forkD (fun h => ?_) (fun h => ?_)
    · have h' : k < 16 := by have : ((k + 1 : Nat) : Int) ≤ 16 := h; omega
      have hpow : 2 ^ k ≤ 2 ^ 15 := Nat.pow_le_pow_right (by decide) (by omega)
      have hmod : q % 2 ^ k < 2 ^ k := Nat.mod_lt _ (Nat.pow_pos (by decide))
      have hms : q % 2 ^ (k + 1) = q % 2 ^ k + 2 ^ k * (q.testBit k).toNat := mod_succ q k
      have hdbl : wrp .u64 ((2 : Int) * ((2 ^ k : Nat) : Int)) = ((2 ^ (k + 1) : Nat) : Int) := by
        rw [wrpE, wu64, Nat.pow_succ]
        generalize 2 ^ k = z at *
        omega
      have hadd : wrp .u64 (((q % 2 ^ k : Nat) : Int) + ((2 ^ k : Nat) : Int)) = ((q % 2 ^ k + 2 ^ k : Nat) : Int) := by
        rw [wrpE, wu64]
        generalize 2 ^ k = z at *
        generalize q % z = y at *
        omega
      have hbit := hq k h'
      refine callH (hasRt_ok p tags L w (k + 1) false hL) [0, 1] rfl ⟨.inl (by rw [renO_rt]; rfl), .inl rfl, True.intro⟩ rfl rfl (H' := refH p tags L) (by simp only [refH, renH, renO_rt]; rfl) ?_
      refine fork (fun g => ?_) (fun g => ?_)
      · rw [hbit] at g
        rw [g] at hms
        refine hK ⟨k + 1, h'⟩ [0, 1] _ (show 16 - k = 16 - (k + 1) + 1 by omega) ⟨⟨rfl, rfl, rfl, congrArg u64 (hadd.trans (congrArg Nat.cast (show _ = q % 2 ^ (k + 1) by rw [hms]; simp))), congrArg u64 hdbl, congrArg u64 hinc, True.intro⟩, ⟨.inl (by rw [renO_rt]; rfl), .inl rfl, True.intro⟩, rfl, rfl, rfl⟩
      · rw [hbit] at g
        rw [g] at hms
        refine hK ⟨k + 1, h'⟩ [0, 1] _ (show 16 - k = 16 - (k + 1) + 1 by omega) ⟨⟨rfl, rfl, rfl, congrArg u64 (congrArg Nat.cast (show q % 2 ^ k = q % 2 ^ (k + 1) by rw [hms]; simp)), congrArg u64 hdbl, congrArg u64 hinc, True.intro⟩, ⟨.inl (by rw [renO_rt]; rfl), .inl rfl, True.intro⟩, rfl, rfl, rfl⟩
    · have h' : k = 16 := by have : ¬ ((k + 1 : Nat) : Int) ≤ 16 := h; omega
      subst h'
      refine endH rfl rfl rfl ⟨.inl rfl, .inl rfl, True.intro⟩ (Nat.le_refl 2) (belowH_ref p tags L) (congrArg u64 (congrArg Nat.cast (Nat.mod_eq_of_lt hq16)))
  · refine acalls_of_awp hT mixed Try.func54 rfl (by kernel_rfl) (by kernel_rfl) (Nat.le_of_ble_eq_true rfl) ?_
    refine loopI (α := { k : Nat // k ≤ 16 }) (fun k => [(0, .ptr 1 0), (1, i64 w), (2, bo true), (7, u64 (q % 2 ^ k.val : Nat)), (8, u64 (2 ^ k.val : Nat)), (9, u64 (k.val + 1 : Nat))]) (fun _ => refH p tags L) (fun k => 16 - k.val) ⟨0, Nat.zero_le _⟩ [0, 1] ⟨⟨rfl, rfl, rfl, congrArg u64 (show (0 : Int) = ((q % 2 ^ 0 : Nat) : Int) by rw [Nat.pow_zero, Nat.mod_one]; rfl), rfl, rfl, True.intro⟩, ⟨.inl (by rw [renO_rt]; rfl), .inl rfl, True.intro⟩, rfl, rfl, rfl⟩ ?_
    rintro ⟨k, hk⟩ K hK
    have hinc : wrp .u64 (((k + 1 : Nat) : Int) + 1) = ((k + 1 + 1 : Nat) : Int) := by rw [wrpE, wu64]; omega
    refine forkD (fun h => ?_) (fun h => ?_)
    · have h' : k < 16 := by have : ((k + 1 : Nat) : Int) ≤ 16 := h; omega
      have hpow : 2 ^ k ≤ 2 ^ 15 := Nat.pow_le_pow_right (by decide) (by omega)
      have hmod : q % 2 ^ k < 2 ^ k := Nat.mod_lt _ (Nat.pow_pos (by decide))
      have hms : q % 2 ^ (k + 1) = q % 2 ^ k + 2 ^ k * (q.testBit k).toNat := mod_succ q k
      have hdbl : wrp .u64 ((2 : Int) * ((2 ^ k : Nat) : Int)) = ((2 ^ (k + 1) : Nat) : Int) := by
        rw [wrpE, wu64, Nat.pow_succ]
        generalize 2 ^ k = z at *
        omega
      have hadd : wrp .u64 (((q % 2 ^ k : Nat) : Int) + ((2 ^ k : Nat) : Int)) = ((q % 2 ^ k + 2 ^ k : Nat) : Int) := by
        rw [wrpE, wu64]
        generalize 2 ^ k = z at *
        generalize q % z = y at *
        omega
      have hbit := hq k h'
      refine callH (hasRt_ok p tags L w (k + 1) true hL) [0, 1] rfl ⟨.inl (by rw [renO_rt]; rfl), .inl rfl, True.intro⟩ rfl rfl (H' := refH p tags L) (by simp only [refH, renH, renO_rt]; rfl) ?_
      refine fork (fun g => ?_) (fun g => ?_)
      · rw [hbit] at g
        rw [g] at hms
        refine hK ⟨k + 1, h'⟩ [0, 1] _ (show 16 - k = 16 - (k + 1) + 1 by omega) ⟨⟨rfl, rfl, rfl, congrArg u64 (hadd.trans (congrArg Nat.cast (show _ = q % 2 ^ (k + 1) by rw [hms]; simp))), congrArg u64 hdbl, congrArg u64 hinc, True.intro⟩, ⟨.inl (by rw [renO_rt]; rfl), .inl rfl, True.intro⟩, rfl, rfl, rfl⟩
      · rw [hbit] at g
        rw [g] at hms
        refine hK ⟨k + 1, h'⟩ [0, 1] _ (show 16 - k = 16 - (k + 1) + 1 by omega) ⟨⟨rfl, rfl, rfl, congrArg u64 (congrArg Nat.cast (show q % 2 ^ k = q % 2 ^ (k + 1) by rw [hms]; simp)), congrArg u64 hdbl, congrArg u64 hinc, True.intro⟩, ⟨.inl (by rw [renO_rt]; rfl), .inl rfl, True.intro⟩, rfl, rfl, rfl⟩
    · have h' : k = 16 := by have : ¬ ((k + 1 : Nat) : Int) ≤ 16 := h; omega
      subst h'
      refine endH rfl rfl rfl ⟨.inl rfl, .inl rfl, True.intro⟩ (Nat.le_refl 2) (belowH_ref p tags L) (congrArg u64 (congrArg Nat.cast (Nat.mod_eq_of_lt hq16)))
end Go.Proofs.Ytkbpddejafdmdaa.A

namespace Go.Proofs.Ytkbpddejafdmdaa.A
open Go
set_option linter.unusedVariables false
set_option maxRecDepth 100000
set_option pp.maxSteps 1500

structure LoSt (t n : Nat) : Type where
  i : Nat
  tags : Nat
  g : Rg
  R : List Rt
  hi : i ≤ 120
  hg : RgOk g
  hgn : g.length = n
  hR : Rel tags g R
  hM : MT tags g
  len : R.length ≤ 256 + 2 * i
theorem VL_nil5 {X : Ctx} {a b c d e : AV} {vs : List Value} (h : VL X [a, b, c, d, nilS, e] vs) : VL X [a, b, c, d, us [], e] vs := by
  match vs with
  | [] => simp [VL] at h
  | [_] => simp [VL] at h
  | [_, _] => simp [VL] at h
  | [_, _, _] => simp [VL] at h
  | [_, _, _, _] => simp [VL] at h
  | [_, _, _, _, _] => simp [VL] at h
  | [x, y, z, t, u, v] =>
    simp only [VL] at h ⊢
    exact ⟨h.1, h.2.1, h.2.2.1, h.2.2.2.1, VR_nilView h.2.2.2.2.1, h.2.2.2.2.2⟩
  | _ :: _ :: _ :: _ :: _ :: _ :: _ :: _ => simp [VL] at h
end Go.Proofs.Ytkbpddejafdmdaa.A
