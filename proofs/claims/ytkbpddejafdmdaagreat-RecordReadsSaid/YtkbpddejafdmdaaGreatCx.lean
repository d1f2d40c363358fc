/- Both tables tell the same of anybody. No condition. -/
import Derived.Test.YtkbpddejafdmdaaGreatCr
namespace Go.Proofs.YtkbpddejafdmdaaGreat.A
open Go
set_option linter.unusedVariables false
set_option maxRecDepth 100000
set_option pp.maxSteps 1500

end Go.Proofs.YtkbpddejafdmdaaGreat.A

namespace Go.Proofs.YtkbpddejafdmdaaGreat.A
open Go
set_option linter.unusedVariables false
set_option maxRecDepth 100000
set_option pp.maxSteps 1500

end Go.Proofs.YtkbpddejafdmdaaGreat.A

namespace Go.Proofs.YtkbpddejafdmdaaGreat.A
open Go
set_option linter.unusedVariables false
set_option maxRecDepth 100000
set_option pp.maxSteps 1500

def boxT (tags : Nat) : Heap := [.row [i64 tags]]
def over (tags x : Nat) : Bool := !decide (x < 2 ^ tags)
theorem shr64 {tags x : Nat} (ht : tags ≤ 16) : hd ((x : Int).fdiv (2 ^ min (wrp .u64 (tags : Int)).toNat IntKind.u64.bits)) = ((x / 2 ^ tags : Nat) : Int) := by
  have e1 : wrp .u64 (tags : Int) = (tags : Int) := by rw [wrpE, wu64]; omega
  have e2 : min (tags : Int).toNat IntKind.u64.bits = tags := by
    have : IntKind.u64.bits = 64 := rfl
    rw [this]
    omega
  rw [hd_eq, e1, e2, Int.fdiv_eq_ediv_of_nonneg _ (Int.pow_nonneg (by decide))]
  have : ((2 : Int) ^ tags) = ((2 ^ tags : Nat) : Int) := by simp
  rw [this]
  rfl
theorem over1_ok (tags x : Nat) (ht : tags ≤ 16) : ACalls Tryz.prog 61 [u64 x, .ptr 0 0] (boxT tags) (RetH (bo (over tags x)) (boxT tags)) := by
  have hs := shr64 (x := x) ht
  have hp : 0 < 2 ^ tags := Nat.pow_pos (by decide)
  have e1 : wrp .u64 (tags : Int) = (tags : Int) := by rw [wrpE, wu64]; omega
  refine acalls_of_awp hT mixed Tryz.func61 rfl (by kernel_rfl) (by kernel_rfl) (Nat.le_of_ble_eq_true rfl) ?_
  refine Ob.intro (by rw [e1]; omega) ?_
  refine fork (fun h => ?_) (fun h => ?_)
  · refine endH rfl rfl rfl ⟨.inl rfl, True.intro⟩ (Nat.le_refl 1) rfl (congrArg bo ?_)
    rw [hs] at h
    have h := bne_iff_ne.1 h
    unfold over
    rw [decide_eq_false (fun hl => h (by rw [Nat.div_eq_of_lt hl]; rfl))]
    rfl
  · refine endH rfl rfl rfl ⟨.inl rfl, True.intro⟩ (Nat.le_refl 1) rfl (congrArg bo ?_)
    rw [hs] at h
    have h := bne_eq_false_iff_eq.1 h
    unfold over
    rw [decide_eq_true ((Nat.div_eq_zero_iff_lt hp).1 (by omega))]
    rfl
def fnL : AV := .fn (.func 61) [.ptr 0 0]
theorem indexL_ok (tags : Nat) (l : List Nat) (ht : tags ≤ 16) (hl : l.length < 9223372036854775807) :
    ACalls Tryz.prog 84 [us l, fnL] (boxT tags) (fun E G => ∃ v, IdxR (∃ x ∈ l, over tags x = true) v ∧ E = .ret v ∧ G = boxT tags) := by
  refine acalls_of_awp hT mixed Tryz.func84 rfl (by kernel_rfl) (by kernel_rfl) (Nat.le_of_ble_eq_true rfl) ?_
  refine loopI (α := { k : Nat // k ≤ l.length ∧ ∀ x ∈ l.take k, over tags x = false }) (fun k => [(0, us l), (1, fnL), (7, i64 l.length), (8, i64 (k.val : Nat))]) (fun _ => boxT tags) (fun k => l.length - k.val) ⟨0, Nat.zero_le _, by simp⟩ [0] ⟨⟨rfl, rfl, rfl, rfl, True.intro⟩, ⟨.inl rfl, True.intro⟩, rfl, rfl, rfl⟩ ?_
  intro z K hK
  obtain ⟨k, hk, hnot⟩ := z
  have hinc : wrp .i64 ((k : Int) + 1) = ((k + 1 : Nat) : Int) := by rw [wrpE, wi64]; omega
  refine forkD (fun h => ?_) (fun h => ?_)
  · have h' : k < l.length := by have : (k : Int) < (l.length : Int) := h; omega
    obtain ⟨y, hy⟩ : ∃ y, l[k]? = some y := ⟨_, List.getElem?_eq_getElem h'⟩
    have hc := over1_ok tags y ht
    refine Ob.intro (show (0 : Int) ≤ (k : Nat) ∧ ((k : Nat) : Int) < (l.length : Nat) by omega) ?_
    refine optK_intro (nth_map hy) ?_
    refine callH hc [0] rfl ⟨.inl rfl, True.intro⟩ rfl rfl (H' := boxT tags) rfl ?_
    refine fork (fun g => ?_) (fun g => ?_)
    · refine endQ rfl rfl rfl ⟨.inl rfl, True.intro⟩ (Nat.le_refl 1) rfl ⟨k, rfl, ⟨fun _ => ⟨y, List.mem_of_getElem? hy, g⟩, fun _ => by omega⟩⟩
    · refine hK ⟨k + 1, h', ?_⟩ [0] _ (show l.length - k = l.length - (k + 1) + 1 by omega) ⟨⟨rfl, rfl, rfl, congrArg i64 hinc, True.intro⟩, ⟨.inl rfl, True.intro⟩, rfl, rfl, rfl⟩
      rw [take_snocA hy]
      intro x hxm
      rcases List.mem_append.1 hxm with hxm | hxm
      · exact hnot x hxm
      · rw [List.mem_singleton.1 hxm]; exact g
  · have h' : k = l.length := by have : ¬ (k : Int) < (l.length : Int) := h; omega
    rw [h', List.take_length] at hnot
    refine endQ rfl rfl rfl ⟨.inl rfl, True.intro⟩ (Nat.le_refl 1) rfl ⟨-1, rfl, ⟨fun hh => by omega, fun ⟨x, hxm, hb⟩ => by rw [hnot x hxm] at hb; cases hb⟩⟩
theorem containsL_ok (tags : Nat) (l : List Nat) (ht : tags ≤ 16) (hl : l.length < 9223372036854775807) :
    ACalls Tryz.prog 62 [us l, fnL] (boxT tags) (RetH (bo (l.any (over tags))) (boxT tags)) := by
  refine acalls_of_awp hT mixed Tryz.func62 rfl (by kernel_rfl) (by kernel_rfl) (Nat.le_of_ble_eq_true rfl) ?_
  refine callQ (indexL_ok tags l ht hl) [0] rfl ⟨.inl rfl, True.intro⟩ rfl rfl (fun v hv => by obtain ⟨i, rfl, _⟩ := hv; rfl) ?_
  rintro v ⟨i, rfl, hi⟩
  have hany : l.any (over tags) = true ↔ ∃ x ∈ l, over tags x = true := List.any_eq_true
  refine forkD (fun h => ?_) (fun h => ?_)
  · refine endH rfl rfl rfl ⟨.inl rfl, True.intro⟩ (Nat.le_refl 1) rfl (congrArg bo ?_)
    exact (hany.2 (hi.1 h)).symm
  · refine endH rfl rfl rfl ⟨.inl rfl, True.intro⟩ (Nat.le_refl 1) rfl (congrArg bo ?_)
    cases hq : l.any (over tags)
    · rfl
    · exact absurd (hi.2 (hany.1 hq)) h
/-- What is loaded so far. -/
def ldG (P : Rg) (k : Nat) : Rg := P.take k ++ List.replicate (P.length - k) (0, 0)
theorem ldG_len {P : Rg} {k : Nat} (h : k ≤ P.length) : (ldG P k).length = P.length := by
  unfold ldG
  rw [List.length_append, List.length_take, List.length_replicate]
  omega
theorem ldG_zero (P : Rg) : ldG P 0 = nobody P.length := by simp [ldG, nobody]
theorem ldG_all (P : Rg) : ldG P P.length = P := by simp [ldG]
theorem ldG_set {P : Rg} {k : Nat} {r : Nat × Nat} (h : P[k]? = some r) : (ldG P k).set k r = ldG P (k + 1) := by
  have hk := (List.getElem?_eq_some_iff.1 h).1
  unfold ldG
  rw [take_snocA h, show P.length - k = (P.length - (k + 1)) + 1 by omega, List.replicate_succ, List.set_append_right _ _ (by rw [List.length_take]; omega), List.length_take, show k - min k P.length = 0 by omega, List.append_assoc]
  rfl
theorem rgC_setAll {g : Rg} {k : Nat} {r : Nat × Nat} (h : k < g.length) : setAll (rgC g) (0 + (k : Int).toNat * 2) [u64 r.1, u64 r.2] = rgC (g.set k r) := by
  obtain ⟨q, hq⟩ : ∃ q, g[k]? = some q := ⟨_, List.getElem?_eq_getElem h⟩
  simp only [setAll]
  rw [Int.toNat_natCast, Nat.zero_add, (rgC_set g k q r.1 hq).1]
  have hq2 : (g.set k (r.1, q.2))[k]? = some (r.1, q.2) := List.getElem?_set_self h
  rw [(rgC_set (g.set k (r.1, q.2)) k (r.1, q.2) r.2 hq2).2, List.set_set]
def Loads (tags : Int) (p m : List Nat) : Prop := 1 ≤ p.length ∧ p.length ≤ 8 ∧ m.length = p.length ∧ 0 ≤ tags ∧ tags ≤ 16 ∧ (∀ x ∈ p, x < 2 ^ tags.toNat) ∧ ∀ x ∈ m, x < 2 ^ tags.toNat
theorem any_over {tags : Nat} {l : List Nat} (h : l.any (over tags) = false) : ∀ x ∈ l, x < 2 ^ tags := by
  intro x hx
  rw [List.any_eq_false] at h
  have := h x hx
  unfold over at this
  by_cases hq : x < 2 ^ tags
  · exact hq
  · rw [decide_eq_false hq] at this
    exact absurd rfl this
theorem any_over' {tags : Nat} {l : List Nat} (h : l.any (over tags) = true) : ¬ ∀ x ∈ l, x < 2 ^ tags := by
  intro hh
  obtain ⟨x, hx, ho⟩ := List.any_eq_true.1 h
  unfold over at ho
  rw [decide_eq_true (hh x hx)] at ho
  cases ho
/-- The table that was loaded. -/
def ldH (tags : Nat) (P : Rg) : Heap := [.dead, .row (rgC P), .row [i64 tags, .slc 1 0 P.length 2]]
theorem belowL_rg (n : Nat) : ∀ l : Rg, belowL n (rgC l) = true
  | [] => rfl
  | x :: l => by
    show belowL n (u64 x.1 :: u64 x.2 :: rgC l) = true
    simp only [belowL, belowL_rg n l]
    rfl
theorem belowH_ld (tags : Nat) (P : Rg) : belowH (ldH tags P).length (ldH tags P) = true := by
  show (_ && (belowL 3 (rgC P) && _)) = true
  rw [belowL_rg]
  rfl
theorem loadBad_ok (tags : Int) (p m : List Nat) (hp : p.length < 1000000) (hm : m.length < 1000000) (h : ¬ Loads tags p m) : ACalls Tryz.prog 46 [i64 tags, us p, us m] [] (Ret (.tup [.sc (.pointer none), i64 1])) := by
  by_cases hn : 1 ≤ p.length ∧ p.length ≤ 8
  · refine acalls_of_awp hT mixed Tryz.func46 rfl (by kernel_rfl) (by kernel_rfl) (Nat.le_of_ble_eq_true rfl) ?_
    refine callH (new_ok p.length hn.1 hn.2) [] rfl True.intro rfl rfl (H' := [.row [i64 tags], .row (rgC (nobody p.length)), .row [i64 0, .slc 1 0 p.length 2]]) (by simp only [tabH, tabO, renH, renO_rg, nobody_len]; rfl) ?_
    refine fork (fun h1 => end0 rfl rfl rfl rfl) (fun h1 => ?_)
    have h1 := bne_eq_false_iff_eq.1 h1
    refine forkD (fun h2 => end0 rfl rfl rfl rfl) (fun h2 => ?_)
    refine forkD (fun h3 => end0 rfl rfl rfl rfl) (fun h3 => ?_)
    obtain ⟨t, rfl⟩ : ∃ t : Nat, tags = t := ⟨tags.toNat, by omega⟩
    refine callH (containsL_ok t p (by omega) (by omega)) [0] rfl ⟨.inl rfl, True.intro⟩ rfl rfl (H' := [.row [i64 t], .row (rgC (nobody p.length)), .row [i64 0, .slc 1 0 p.length 2]]) rfl ?_
    refine fork (fun h4 => end0 rfl rfl rfl rfl) (fun h4 => ?_)
    refine callH (containsL_ok t m (by omega) (by omega)) [0] rfl ⟨.inl rfl, True.intro⟩ rfl rfl (H' := [.row [i64 t], .row (rgC (nobody p.length)), .row [i64 0, .slc 1 0 p.length 2]]) rfl ?_
    refine fork (fun h5 => end0 rfl rfl rfl rfl) (fun h5 => ?_)
    exact absurd ⟨hn.1, hn.2, by omega, by omega, by omega, any_over h4, any_over h5⟩ h
  · refine acalls_of_awp hT mixed Tryz.func46 rfl (by kernel_rfl) (by kernel_rfl) (Nat.le_of_ble_eq_true rfl) ?_
    refine callP (newBad_ok p.length (by omega)) rfl rfl ?_
    refine end0 rfl rfl rfl rfl
theorem load_ok (tags : Nat) (p m : List Nat) (h : Loads tags p m) : ACalls Tryz.prog 46 [i64 tags, us p, us m] [] (RetH (.tup [.ptr 2 0, i64 0]) (ldH tags (p.zip m))) := by
  obtain ⟨hn1, hn2, hlen, _, ht, hp, hm⟩ := h
  rw [Int.toNat_natCast] at hp hm
  have hP : (p.zip m).length = p.length := by rw [List.length_zip]; omega
  refine acalls_of_awp hT mixed Tryz.func46 rfl (by kernel_rfl) (by kernel_rfl) (Nat.le_of_ble_eq_true rfl) ?_
  refine callH (new_ok p.length hn1 hn2) [] rfl True.intro rfl rfl (H' := [.row [i64 tags], .row (rgC (nobody p.length)), .row [i64 0, .slc 1 0 p.length 2]]) (by simp only [tabH, tabO, renH, renO_rg, nobody_len]; rfl) ?_
  refine fork (fun h1 => by have := bne_iff_ne.1 h1; omega) (fun h1 => ?_)
  refine forkD (fun h3 => by omega) (fun h3 => ?_)
  refine callH (containsL_ok tags p (by omega) (by omega)) [0] rfl ⟨.inl rfl, True.intro⟩ rfl rfl (H' := [.row [i64 tags], .row (rgC (nobody p.length)), .row [i64 0, .slc 1 0 p.length 2]]) rfl ?_
  refine fork (fun h4 => absurd hp (any_over' h4)) (fun h4 => ?_)
  refine callH (containsL_ok tags m (by omega) (by omega)) [0] rfl ⟨.inl rfl, True.intro⟩ rfl rfl (H' := [.row [i64 tags], .row (rgC (nobody p.length)), .row [i64 0, .slc 1 0 p.length 2]]) rfl ?_
  refine fork (fun h5 => absurd hm (any_over' h5)) (fun h5 => ?_)
  refine loopI (α := { k : Nat // k ≤ p.length }) (fun k => [(1, us p), (2, us m), (8, .ptr 2 0), (52, i64 p.length), (53, i64 (k.val : Nat))]) (fun k => [.row [i64 tags], .row (rgC (ldG (p.zip m) k.val)), .row [i64 tags, .slc 1 0 p.length 2]]) (fun k => p.length - k.val) ⟨0, Nat.zero_le _⟩ [0, 1, 2] ⟨⟨rfl, rfl, rfl, rfl, rfl, True.intro⟩, ⟨.inl rfl, .inl (by rw [renO_rg, ldG_zero, hP]; rfl), .inl rfl, True.intro⟩, rfl, rfl, rfl⟩ ?_
  rintro ⟨k, hk⟩ K hK
  have hinc : wrp .i64 ((k : Int) + 1) = ((k + 1 : Nat) : Int) := by rw [wrpE, wi64]; omega
  refine forkD (fun h => ?_) (fun h => ?_)
  · have h' : k < p.length := by have : (k : Int) < (p.length : Int) := h; omega
    obtain ⟨y, hy⟩ : ∃ y, p[k]? = some y := ⟨_, List.getElem?_eq_getElem h'⟩
    obtain ⟨z, hz⟩ : ∃ z, m[k]? = some z := ⟨_, List.getElem?_eq_getElem (by omega)⟩
    have hyz : (p.zip m)[k]? = some (y, z) := by rw [List.getElem?_zip_eq_some]; exact ⟨hy, hz⟩
    have hb := (show (0 : Int) ≤ (k : Nat) ∧ ((k : Nat) : Int) < (p.length : Nat) by omega)
    have hbm := (show (0 : Int) ≤ (k : Nat) ∧ ((k : Nat) : Int) < (m.length : Nat) by omega)
    have hgl := ldG_len (P := p.zip m) (k := k) (by omega)
    have hset := rgC_setAll (g := ldG (p.zip m) k) (k := k) (r := (y, z)) (by omega)
    rw [ldG_set hyz] at hset
    have hrl := rgC_len (ldG (p.zip m) k)
    refine ⟨[0, 0, 0, 0, 0, 0, 0, 0, 0, 0, 0, 0, 0, 0, 0, 1], [[], [0], [0, 1], [0, 1, 2], [], [], [], [5, 6], [5, 6, 7], [], [], [9, 10], [9, 10, 11], [5, 6, 7, 8, 9, 10, 11, 12], [0, 1, 2, 3, 4, 5, 6, 7, 8, 9, 10, 11, 12, 13], [0, 1, 2, 3, 4, 5, 6, 7, 8, 9, 10, 11, 12, 13, 14]], [0, 0, 0, 0, 0, 0, 0, 0, 0, 0, 0, 0, 0, 0, 0, 0], [15], [[8], [56], [57], [58], [11], [1], [11], [61, 62], [63], [2], [11], [65, 66], [67], [64, 68], [59, 60], [70, 69]], Ob.intro (by kernel_rfl) ?_⟩
    refine Ob.intro hb ?_
    refine optK_intro (nth_map hy) ?_
    refine Ob.intro hbm ?_
    refine optK_intro (nth_map hz) ?_
    refine Ob.intro hb ?_
    refine same ?_
    refine optK_intro (nth_map hy) ?_
    refine same ?_
    refine optK_intro (nth_map hz) ?_
    refine same ?_
    refine optK_intro (wr_eq (cs := rgC (ldG (p.zip m) k)) rfl (show 0 + (k : Int).toNat * 2 + 2 ≤ _ by rw [hrl, hgl, hP]; omega)) ?_
    repeat refine same ?_
    refine hK ⟨k + 1, h'⟩ [0, 1, 2] _ (show p.length - k = p.length - (k + 1) + 1 by omega) ⟨⟨rfl, rfl, rfl, rfl, congrArg i64 hinc, True.intro⟩, ⟨.inl rfl, .inl ?_, .inl rfl, True.intro⟩, rfl, rfl, rfl⟩
    rw [renO_rg]
    exact congrArg (fun z => some (AObj.row z)) hset
  · have h' : k = p.length := by have : ¬ (k : Int) < (p.length : Int) := h; omega
    refine endH rfl rfl rfl ⟨.inr rfl, .inl ?_, .inl ?_, True.intro⟩ (Nat.zero_le 3) (belowH_ld tags (p.zip m)) rfl
    · have : ldG (p.zip m) k = p.zip m := by rw [h', ← hP, ldG_all]
      exact congrArg (fun z => AObj.row (rgC z)) this.symm
    · exact congrArg (fun z => AObj.row [i64 tags, .slc 1 0 z 2]) hP
end Go.Proofs.YtkbpddejafdmdaaGreat.A

namespace Go.Proofs.YtkbpddejafdmdaaGreat.A
open Go
set_option linter.unusedVariables false
set_option maxRecDepth 100000
set_option pp.maxSteps 1500

def bitAt (p m : List Nat) (w : Int) (x : Nat) (c : Bool) : Prop := 0 ≤ w ∧ ∃ q, (if c = true then m else p)[w.toNat]? = some q ∧ q.testBit (x - 1) = true
/-- As far as rights were made: of those before one all, of one those below a tag. -/
def Made (t : Nat) (p m : List Nat) (who tag : Nat) (L : List Rt) : Prop := ∀ w x c, (w, x, c) ∈ L ↔ 1 ≤ x ∧ bitAt p m w x c ∧ ((w < (who : Int) ∧ x ≤ t) ∨ (w = (who : Int) ∧ x < tag))
def Gone (t : Nat) (p m : List Nat) (who : Nat) : Prop := ∀ k a b, k < who → p[k]? = some a → m[k]? = some b → a < 2 ^ t ∧ b < 2 ^ t
structure LdIn (t : Nat) (p m : List Nat) (who : Nat) (pw mw : Nat) : Type where
  tag : Nat
  L : List Rt
  lo : 1 ≤ tag
  hi : tag ≤ t + 1
  made : Made t p m who tag L
  len : L.length ≤ 2 * t * who + 2 * (tag - 1)
structure LdOut (t : Nat) (p m : List Nat) : Type where
  who : Nat
  L : List Rt
  hi : who ≤ p.length
  made : Made t p m who 1 L
  gone : Gone t p m who
  len : L.length ≤ 2 * t * who
theorem made_zero (t : Nat) (p m : List Nat) : Made t p m 0 1 [] := fun w x c => ⟨fun h => (by cases h), fun ⟨h1, ⟨h0, _⟩, h2⟩ => by omega⟩
theorem made_next {t : Nat} {p m : List Nat} {who : Nat} {L : List Rt} (h : Made t p m who (t + 1) L) : Made t p m (who + 1) 1 L := fun w x c => (h w x c).trans ⟨fun ⟨h1, h2, h3⟩ => ⟨h1, h2, by omega⟩, fun ⟨h1, h2, h3⟩ => ⟨h1, h2, by omega⟩⟩
/-- A bit's right, if there is the bit. -/
def put (L : List Rt) (who tag a : Nat) (c : Bool) : List Rt := if a % 2 = 1 then L ++ [((who : Int), tag, c)] else L
theorem put_len {L : List Rt} {who tag a : Nat} {c : Bool} : (put L who tag a c).length ≤ L.length + 1 := by
  unfold put
  split <;> simp
theorem mem_put {L : List Rt} {who tag a : Nat} {c : Bool} {r : Rt} : r ∈ put L who tag a c ↔ r ∈ L ∨ (a % 2 = 1 ∧ r = ((who : Int), tag, c)) := by
  unfold put
  split
  · rename_i h
    simp [h]
  · rename_i h
    simp [h]
theorem testBit_half (q tag : Nat) : (q / 2 ^ (tag - 1) % 2 = 1) ↔ q.testBit (tag - 1) = true := by
  rw [Nat.testBit_eq_decide_div_mod_eq]
  exact decide_eq_true_iff.symm
theorem made_put {t : Nat} {p m : List Nat} {who tag : Nat} {L : List Rt} {pw mw : Nat} (hp : p[who]? = some pw) (hm : m[who]? = some mw) (h1 : 1 ≤ tag) (h2 : tag ≤ t) (h : Made t p m who tag L) :
    Made t p m who (tag + 1) (put (put L who tag (pw / 2 ^ (tag - 1)) false) who tag (mw / 2 ^ (tag - 1)) true) := by
  intro w x c
  rw [mem_put, mem_put, h w x c, testBit_half, testBit_half]
  have hat : ∀ c, bitAt p m (who : Int) tag c ↔ (if c = true then mw else pw).testBit (tag - 1) = true := fun c => by
    unfold bitAt
    rw [Int.toNat_natCast]
    cases c
    · simp [hp]
    · simp [hm]
  constructor
  · rintro ((⟨h3, h4, h5⟩ | ⟨h3, h4⟩) | ⟨h3, h4⟩)
    · exact ⟨h3, h4, by omega⟩
    · cases h4
      exact ⟨h1, (hat false).2 h3, by omega⟩
    · cases h4
      exact ⟨h1, (hat true).2 h3, by omega⟩
  · rintro ⟨h3, h4, h5⟩
    by_cases hx : w = (who : Int) ∧ x = tag
    · obtain ⟨rfl, rfl⟩ := hx
      have h6 := (hat c).1 h4
      cases c
      · exact .inl (.inr ⟨h6, rfl⟩)
      · exact .inr ⟨h6, rfl⟩
    · exact .inl (.inl ⟨h3, h4, by omega⟩)
def loadR (tags : Int) (p m : List Nat) : AEnd → Heap → Prop := fun E G =>
  (Loads tags p m ∧ ∃ L, Made tags.toNat p m p.length 1 L ∧ L.length ≤ 2 * tags.toNat * p.length ∧ E = .ret (.tup [.ptr 1 0, bo true]) ∧ G = refH p.length tags.toNat L) ∨ (¬ Loads tags p m ∧ E = .ret (.tup [.sc (.pointer none), bo false]) ∧ G = [])
theorem half {a : Nat} (ha : a < 18446744073709551616) : (hd ((a : Int).tmod 2) == 1) = decide (a % 2 = 1) ∧ wrp .u64 ((a : Int).tdiv 2) = ((a / 2 : Nat) : Int) := by
  have e1 : (a : Int).tmod 2 = ((a % 2 : Nat) : Int) := by rw [Int.tmod_eq_emod_of_nonneg (by omega)]; omega
  have e2 : (a : Int).tdiv 2 = ((a / 2 : Nat) : Int) := by rw [Int.tdiv_eq_ediv_of_nonneg (by omega)]; omega
  refine ⟨?_, ?_⟩
  · rw [hd_eq, e1]
    by_cases h : a % 2 = 1
    · rw [h]; rfl
    · rw [decide_eq_false h, show a % 2 = 0 by omega]; rfl
  · rw [e2, wrpE, wu64]
    omega
theorem loadM_ok (tags : Int) (p m : List Nat) (hp : ∀ x ∈ p, x < 18446744073709551616) (hm : ∀ x ∈ m, x < 18446744073709551616) (hpl : p.length < 1000000) (hml : m.length < 1000000) :
    ACalls Tryz.prog 28 [i64 tags, us p, us m] [] (loadR tags p m) := by
  refine acalls_of_awpC [13, 15] hT mixed Tryz.func28 rfl (by kernel_rfl) (by kernel_rfl) (Nat.le_of_ble_eq_true rfl) ?_
  refine forkD (fun h1 => endG (G := []) rfl rfl rfl True.intro (Nat.zero_le 0) rfl (.inr ⟨fun hh => by have := hh.1; omega, rfl, rfl⟩)) (fun h1 => ?_)
  refine forkD (fun h2 => endG (G := []) rfl rfl rfl True.intro (Nat.zero_le 0) rfl (.inr ⟨fun hh => by have := hh.2.1; omega, rfl, rfl⟩)) (fun h2 => ?_)
  refine fork (fun h3 => endG (G := []) rfl rfl rfl True.intro (Nat.zero_le 0) rfl (.inr ⟨fun hh => by have := hh.2.2.1; have := bne_iff_ne.1 h3; omega, rfl, rfl⟩)) (fun h3 => ?_)
  have h3 := bne_eq_false_iff_eq.1 h3
  refine forkD (fun h4 => endG (G := []) rfl rfl rfl True.intro (Nat.zero_le 0) rfl (.inr ⟨fun hh => by have := hh.2.2.2.1; omega, rfl, rfl⟩)) (fun h4 => ?_)
  refine forkD (fun h5 => endG (G := []) rfl rfl rfl True.intro (Nat.zero_le 0) rfl (.inr ⟨fun hh => by have := hh.2.2.2.2.1; omega, rfl, rfl⟩)) (fun h5 => ?_)
  obtain ⟨t, rfl⟩ : ∃ t : Nat, tags = t := ⟨tags.toNat, by omega⟩
  refine loopG (α := LdOut t p m) (fun z => [(0, i64 t), (1, us p), (2, us m), (8, .ptr 1 0), (9, i64 (z.who : Nat))]) (fun z => refH p.length t z.L) [] (fun z => p.length - z.who) ⟨0, [], Nat.zero_le _, made_zero t p m, fun k _ _ hk => absurd hk (Nat.not_lt_zero k), Nat.zero_le _⟩ [.cell 0 2 3] [1, 0] ⟨⟨rfl, rfl, rfl, rfl, rfl, True.intro⟩, ⟨.inl rfl, .inl rfl, True.intro⟩, rfl, rfl, rfl⟩ ?_
  rintro ⟨who, L, hwho, hmade, hgone, hlen⟩ K hK
  have hinc : wrp .i64 ((who : Int) + 1) = ((who + 1 : Nat) : Int) := by rw [wrpE, wi64]; omega
  refine forkD (fun h => ?_) (fun h => ?_)
  · have h' : who < p.length := by have : (who : Int) < (p.length : Int) := h; omega
    obtain ⟨pw, hpw⟩ : ∃ y, p[who]? = some y := ⟨_, List.getElem?_eq_getElem h'⟩
    obtain ⟨mw, hmw⟩ : ∃ z, m[who]? = some z := ⟨_, List.getElem?_eq_getElem (by omega)⟩
    have hb := (show (0 : Int) ≤ (who : Nat) ∧ ((who : Nat) : Int) < (p.length : Nat) by omega)
    have hbm := (show (0 : Int) ≤ (who : Nat) ∧ ((who : Nat) : Int) < (m.length : Nat) by omega)
    have hpw2 := hp pw (List.mem_of_getElem? hpw)
    have hmw2 := hm mw (List.mem_of_getElem? hmw)
    refine ⟨[0, 0, 0, 0, 0, 0, 0, 0, 0, 0], [[], [], [0, 1], [0, 1, 2], [], [], [4, 5], [4, 5, 6], [0, 1, 2, 3], [0, 1, 2, 3, 4, 5, 6, 7, 8]], [0, 0, 0, 0, 0, 0, 0, 0, 0, 0], [], [[1], [9], [47, 48], [49], [2], [9], [51, 52], [53], [50], [54]], Ob.intro (by kernel_rfl) ?_⟩
    refine Ob.intro hb ?_
    refine optK_intro (nth_map hpw) ?_
    refine Ob.intro hbm ?_
    refine optK_intro (nth_map hmw) ?_
    refine optK_intro (nth_map hpw) ?_
    refine same ?_
    refine optK_intro (nth_map hmw) ?_
    refine same ?_
    refine loopI (α := LdIn t p m who pw mw) (fun z => [(0, i64 t), (1, us p), (2, us m), (8, .ptr 1 0), (9, i64 (who : Nat)), (10, u64 (pw / 2 ^ (z.tag - 1) : Nat)), (11, u64 (mw / 2 ^ (z.tag - 1) : Nat)), (12, i64 (z.tag : Nat))]) (fun z => refH p.length t z.L) (fun z => t + 1 - z.tag) ⟨1, L, Nat.le_refl _, by omega, hmade, by omega⟩ [0, 1] ⟨⟨rfl, rfl, rfl, rfl, rfl, ?_, ?_, rfl, True.intro⟩, ⟨.inl (by rw [renO_rt]; rfl), .inl rfl, True.intro⟩, rfl, rfl, rfl⟩ ?_
    · show u64 pw = u64 (pw / 2 ^ (1 - 1) : Nat)
      rw [Nat.pow_zero, Nat.div_one]
    · show u64 mw = u64 (mw / 2 ^ (1 - 1) : Nat)
      rw [Nat.pow_zero, Nat.div_one]
    rintro ⟨tag, L2, hlo, hhi, hmade2, hlen2⟩ K2 hK2
    refine forkD (fun h6 => ?_) (fun h6 => ?_)
    · have h6' : tag ≤ t := by have : (tag : Int) ≤ (t : Int) := h6; omega
      have ha1 : pw / 2 ^ (tag - 1) < 18446744073709551616 := Nat.lt_of_le_of_lt (Nat.div_le_self ..) hpw2
      have ha2 : mw / 2 ^ (tag - 1) < 18446744073709551616 := Nat.lt_of_le_of_lt (Nat.div_le_self ..) hmw2
      have hq1 : pw / 2 ^ (tag - 1) / 2 = pw / 2 ^ (tag + 1 - 1) := by rw [Nat.div_div_eq_div_mul, ← Nat.pow_succ, show (tag - 1).succ = tag + 1 - 1 by omega]
      have hq2 : mw / 2 ^ (tag - 1) / 2 = mw / 2 ^ (tag + 1 - 1) := by rw [Nat.div_div_eq_div_mul, ← Nat.pow_succ, show (tag - 1).succ = tag + 1 - 1 by omega]
      have hmade3 := made_put hpw hmw hlo h6' hmade2
      have e1 : wrp .u64 (tag : Int) = (tag : Int) := by rw [wrpE, wu64]; omega
      have hincT : wrp .i64 ((tag : Int) + 1) = ((tag + 1 : Nat) : Int) := by rw [wrpE, wi64]; omega
      have hhw : 2 * t * who ≤ 2 * t * 8 := Nat.mul_le_mul_left _ (by omega)
      generalize hA : pw / 2 ^ (tag - 1) = a at *
      generalize hB : mw / 2 ^ (tag - 1) = b at *
      have hl1 := put_len (L := L2) (who := who) (tag := tag) (a := a) (c := false)
      have hl2 := put_len (L := put L2 who tag a false) (who := who) (tag := tag) (a := b) (c := true)
      refine cutI (α := Unit) (fun _ => [(0, i64 t), (1, us p), (2, us m), (8, .ptr 1 0), (9, i64 (who : Nat)), (10, u64 a), (11, u64 b), (12, i64 (tag : Nat))]) (fun _ => refH p.length t (put L2 who tag a false)) [] (fun K3 hK3 => ?_) (fun _ => ?_)
      · refine Ob.intro (by decide) ?_
        have hh := (half ha1).1
        refine fork (fun g => ?_) (fun g => ?_)
        · rw [hh] at g
          have hput : put L2 who tag a false = L2 ++ [((who : Int), tag, false)] := if_pos (of_decide_eq_true g)
          refine Ob.intro rfl ?_
          refine optK_intro (flat_rdAll rtC_len rfl rfl) ?_
          refine Ob.intro (show (L2.length + 1) * 24 ≤ 140737488355328 ∧ L2.length + 1 ≤ 9223372036854775807 by omega) ?_
          refine hK3 () [] [3, 1] _ ⟨⟨rfl, rfl, rfl, rfl, rfl, rfl, rfl, rfl, True.intro⟩, ⟨.inl ?_, .inl ?_, True.intro⟩, rfl, rfl, rfl⟩
          · rw [renO_rt, hput, flat_append]
            exact congrArg (fun z => some (AObj.row (flat rtC L2 ++ [i64 who, u64 z, bo false]))) e1
          · rw [hput, List.length_append]
            rfl
        · rw [hh] at g
          have hput : put L2 who tag a false = L2 := if_neg (of_decide_eq_false g)
          refine hK3 () [] [0, 1] _ ⟨⟨rfl, rfl, rfl, rfl, rfl, rfl, rfl, rfl, True.intro⟩, ⟨.inl ?_, .inl ?_, True.intro⟩, rfl, rfl, rfl⟩
          · rw [renO_rt, hput]
            rfl
          · rw [hput]
            rfl
      · refine cutI (α := Unit) (fun _ => [(0, i64 t), (1, us p), (2, us m), (8, .ptr 1 0), (9, i64 (who : Nat)), (10, u64 a), (11, u64 b), (12, i64 (tag : Nat))]) (fun _ => refH p.length t (put (put L2 who tag a false) who tag b true)) [] (fun K3 hK3 => ?_) (fun _ => ?_)
        · generalize put L2 who tag a false = L3 at *
          refine Ob.intro (by decide) ?_
          have hh := (half ha2).1
          refine fork (fun g => ?_) (fun g => ?_)
          · rw [hh] at g
            have hput : put L3 who tag b true = L3 ++ [((who : Int), tag, true)] := if_pos (of_decide_eq_true g)
            refine Ob.intro rfl ?_
            refine optK_intro (flat_rdAll rtC_len rfl rfl) ?_
            refine Ob.intro (show (L3.length + 1) * 24 ≤ 140737488355328 ∧ L3.length + 1 ≤ 9223372036854775807 by omega) ?_
            refine hK3 () [] [3, 1] _ ⟨⟨rfl, rfl, rfl, rfl, rfl, rfl, rfl, rfl, True.intro⟩, ⟨.inl ?_, .inl ?_, True.intro⟩, rfl, rfl, rfl⟩
            · rw [renO_rt, hput, flat_append]
              exact congrArg (fun z => some (AObj.row (flat rtC L3 ++ [i64 who, u64 z, bo true]))) e1
            · rw [hput, List.length_append]
              rfl
          · rw [hh] at g
            have hput : put L3 who tag b true = L3 := if_neg (of_decide_eq_false g)
            refine hK3 () [] [0, 1] _ ⟨⟨rfl, rfl, rfl, rfl, rfl, rfl, rfl, rfl, True.intro⟩, ⟨.inl ?_, .inl ?_, True.intro⟩, rfl, rfl, rfl⟩
            · rw [renO_rt, hput]
              rfl
            · rw [hput]
              rfl
        · refine Ob.intro (by decide) ?_
          refine Ob.intro (by decide) ?_
          refine hK2 ⟨tag + 1, put (put L2 who tag a false) who tag b true, by omega, by omega, hmade3, by omega⟩ [0, 1] _ (show t + 1 - tag = t + 1 - (tag + 1) + 1 by omega) ⟨⟨rfl, rfl, rfl, rfl, rfl, ?_, ?_, congrArg i64 hincT, True.intro⟩, ⟨.inl (by rw [renO_rt]; rfl), .inl rfl, True.intro⟩, rfl, rfl, rfl⟩
          · show u64 (wrp .u64 ((a : Int).tdiv 2)) = u64 (pw / 2 ^ (tag + 1 - 1) : Nat)
            rw [(half ha1).2, hq1]
          · show u64 (wrp .u64 ((b : Int).tdiv 2)) = u64 (mw / 2 ^ (tag + 1 - 1) : Nat)
            rw [(half ha2).2, hq2]
    · have h6' : tag = t + 1 := by have : ¬ (tag : Int) ≤ (t : Int) := h6; omega
      subst h6'
      have hz1 := Nat.div_eq_zero_iff_lt (x := pw) (show 0 < 2 ^ t from Nat.pow_pos (by decide))
      have hz2 := Nat.div_eq_zero_iff_lt (x := mw) (show 0 < 2 ^ t from Nat.pow_pos (by decide))
      have nope : ¬ (pw < 2 ^ t ∧ mw < 2 ^ t) → ¬ Loads t p m := fun hn hh => hn ⟨hh.2.2.2.2.2.1 pw (List.mem_of_getElem? hpw), hh.2.2.2.2.2.2 mw (List.mem_of_getElem? hmw)⟩
      refine forkD (fun h7 => ?_) (fun h7 => ?_)
      · have h7 : ((pw / 2 ^ t : Nat) : Int) > 0 := h7
        refine endG (G := []) rfl rfl rfl True.intro (Nat.zero_le 0) rfl (.inr ⟨nope (fun hh => by have := hz1.2 hh.1; omega), rfl, rfl⟩)
      · have h7 : ¬ ((pw / 2 ^ t : Nat) : Int) > 0 := h7
        refine forkD (fun h8 => ?_) (fun h8 => ?_)
        · have h8 : ((mw / 2 ^ t : Nat) : Int) > 0 := h8
          refine endG (G := []) rfl rfl rfl True.intro (Nat.zero_le 0) rfl (.inr ⟨nope (fun hh => by have := hz2.2 hh.2; omega), rfl, rfl⟩)
        · have h8 : ¬ ((mw / 2 ^ t : Nat) : Int) > 0 := h8
          have g1 := hz1.1 (Nat.eq_zero_of_not_pos fun hh => h7 (Int.natCast_pos.2 hh))
          have g2 := hz2.1 (Nat.eq_zero_of_not_pos fun hh => h8 (Int.natCast_pos.2 hh))
          refine hK ⟨who + 1, L2, h', made_next hmade2, fun k x y hk hx hy => ?_, by rw [Nat.mul_add]; omega⟩ [] [0, 1] _ (show p.length - who = p.length - (who + 1) + 1 by omega) ⟨⟨rfl, rfl, rfl, rfl, congrArg i64 hinc, True.intro⟩, ⟨.inl (by rw [renO_rt]; rfl), .inl rfl, True.intro⟩, rfl, rfl, rfl⟩
          by_cases hk2 : k = who
          · subst hk2
            rw [hpw] at hx
            rw [hmw] at hy
            cases hx
            cases hy
            exact ⟨g1, g2⟩
          · exact hgone k x y (by omega) hx hy
  · have h' : who = p.length := by have : ¬ (who : Int) < (p.length : Int) := h; omega
    subst h'
    refine endG (G := refH p.length t L) rfl rfl rfl ⟨.inl rfl, .inl rfl, True.intro⟩ (Nat.zero_le 2) (belowH_ref p.length t L) (.inl ⟨⟨by omega, by omega, by omega, by omega, by omega, fun x hx => ?_, fun x hx => ?_⟩, L, hmade, hlen, rfl, rfl⟩)
    · obtain ⟨k, hk, rfl⟩ := List.getElem_of_mem hx
      exact (hgone k _ _ hk (List.getElem?_eq_getElem hk) (List.getElem?_eq_getElem (show k < m.length by omega))).1
    · obtain ⟨k, hk, rfl⟩ := List.getElem_of_mem hx
      exact (hgone k _ _ (by omega) (List.getElem?_eq_getElem (show k < p.length by omega)) (List.getElem?_eq_getElem hk)).2
end Go.Proofs.YtkbpddejafdmdaaGreat.A

namespace Go.Proofs.YtkbpddejafdmdaaGreat.A
open Go
set_option linter.unusedVariables false
set_option maxRecDepth 100000
set_option pp.maxSteps 1500

theorem zip_masks : ∀ g : Rg, (plusL g).zip (minusL g) = g
  | [] => rfl
  | r :: g => by
    show (r.1, r.2) :: (plusL g).zip (minusL g) = r :: g
    rw [zip_masks g]
end Go.Proofs.YtkbpddejafdmdaaGreat.A

namespace Go.Proofs.YtkbpddejafdmdaaGreat.A
open Go
set_option linter.unusedVariables false
set_option maxRecDepth 100000
set_option pp.maxSteps 1500

end Go.Proofs.YtkbpddejafdmdaaGreat.A
