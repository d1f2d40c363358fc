/- Masks of tables; a loaded table tells what its masks tell. No condition. -/
import Derived.Test.YtofinmlloefocaaCv
namespace Go.Proofs.Ytofinmlloefocaa.A
open Go
set_option linter.unusedVariables false
set_option maxRecDepth 100000
set_option pp.maxSteps 1500

/-- No mask has a tag that was not made. -/
def MT (tags : Nat) (g : Rg) : Prop := ∀ r ∈ g, r.1 < 2 ^ tags ∧ r.2 < 2 ^ tags
theorem bitS_mt {x t : Nat} (h : x ≤ t) : bitS x < 2 ^ t ∨ bitS x = 0 := by
  unfold bitS
  split
  · exact .inr rfl
  · exact .inl (Nat.pow_lt_pow_right (by decide) (by omega))
theorem or_mt {a x t : Nat} (ha : a < 2 ^ t) (h : x ≤ t) : a ||| bitS x < 2 ^ t := by
  rcases bitS_mt h with h1 | h1
  · exact Nat.or_lt_two_pow ha h1
  · rw [h1, Nat.or_zero]; exact ha
theorem mt_set {t : Nat} {g : Rg} {w : Int} {m : Bool} {x : Nat} (h : MT t g) (hx : x ≤ t) : MT t (setR g w m x) := by
  unfold setR
  split
  · rename_i r hr
    have hr := h r (List.mem_of_getElem? hr)
    intro z hz
    rcases List.mem_or_eq_of_mem_set hz with hz | hz
    · exact h z hz
    · subst hz
      split
      · exact ⟨hr.1, or_mt hr.2 hx⟩
      · exact ⟨or_mt hr.1 hx, hr.2⟩
  · exact h
theorem mt_up {t : Nat} {g : Rg} (h : MT t g) : MT (t + 1) g := fun r hr => by
  have hp : 2 ^ t ≤ 2 ^ (t + 1) := Nat.pow_le_pow_right (by decide) (by omega)
  have := h r hr
  omega
theorem mt_do {tags : Nat} {g : Rg} {e k w t : Int} {x : Nat} {m : Bool} (h : MT tags g) (he : checkE tags g k w t x m = e) : MT (doTags tags e k) (doG tags g e k w t x m) := by
  unfold doTags doG
  by_cases h0 : e = 0
  · rw [h0] at he ⊢
    rcases check_zero he with ⟨hk, _⟩ | ⟨hk, _, _, hx1, hx2, _⟩
    · rw [if_pos ⟨rfl, by omega⟩, if_pos rfl, if_neg (by omega)]
      exact mt_set (mt_set (mt_up h) (Nat.le_refl _)) (Nat.le_refl _)
    · rw [if_neg (by omega), if_pos rfl, if_pos hk]
      exact mt_set h hx2
  · rw [if_neg (fun hh => h0 hh.1), if_neg h0]
    exact h
theorem mask_mt {t : Nat} {g : Rg} (h : MT t g) (w : Int) (m : Bool) : maskOf g w m < 2 ^ t := by
  unfold maskOf
  cases hq : g[w.toNat]? with
  | none => exact Nat.pow_pos (by decide)
  | some r =>
    have := h r (List.mem_of_getElem? hq)
    show (if m = true then r.2 else r.1) < _
    split
    · exact this.2
    · exact this.1
theorem loads_masks {t : Nat} {g : Rg} (h : MT t g) (h1 : 1 ≤ g.length) (h8 : g.length ≤ 8) (ht : t ≤ 16) : Loads t (plusL g) (minusL g) := by
  refine ⟨by rw [plusL_len]; exact h1, by rw [plusL_len]; exact h8, by rw [plusL_len, minusL_len], by omega, by omega, fun x hx => ?_, fun x hx => ?_⟩
  · obtain ⟨r, hr, rfl⟩ := List.mem_map.1 hx
    exact (h r hr).1
  · obtain ⟨r, hr, rfl⟩ := List.mem_map.1 hx
    exact (h r hr).2
theorem zip_masks : ∀ g : Rg, (plusL g).zip (minusL g) = g
  | [] => rfl
  | r :: g => by
    show (r.1, r.2) :: (plusL g).zip (minusL g) = r :: g
    rw [zip_masks g]
theorem rel_load {t : Nat} {p m : List Nat} {L : List Rt} (h : Loads t p m) (hm : Made t p m p.length 1 L) : Rel t (p.zip m) L ∧ MT t (p.zip m) ∧ (p.zip m).length = p.length := by
  obtain ⟨h1, h8, hl, _, ht, hp, hmm⟩ := h
  rw [Int.toNat_natCast] at hp hmm
  have hlen : (p.zip m).length = p.length := by rw [List.length_zip]; omega
  have hmt : MT t (p.zip m) := fun r hr => by
    obtain ⟨k, hk, rfl⟩ := List.getElem_of_mem hr
    have := List.getElem?_zip_eq_some.1 (List.getElem?_eq_getElem hk)
    exact ⟨hp _ (List.mem_of_getElem? this.1), hmm _ (List.mem_of_getElem? this.2)⟩
  refine ⟨⟨fun w x c hw => ?_, fun r hr => ?_, by omega⟩, hmt, hlen⟩
  · have hw := of_decide_eq_true hw
    rw [hlen] at hw
    have hlt := mask_mt hmt w c
    have hpow : ∀ i, t ≤ i → (maskOf (p.zip m) w c).testBit i = false := fun i hi => Nat.testBit_lt_two_pow (Nat.lt_of_lt_of_le hlt (Nat.pow_le_pow_right (by decide) hi))
    have hmask : (if c = true then m else p)[w.toNat]? = some (maskOf (p.zip m) w c) := by
      obtain ⟨a, ha⟩ : ∃ a, p[w.toNat]? = some a := ⟨_, List.getElem?_eq_getElem (by omega)⟩
      obtain ⟨b, hb⟩ : ∃ b, m[w.toNat]? = some b := ⟨_, List.getElem?_eq_getElem (by omega)⟩
      have hz : (p.zip m)[w.toNat]? = some (a, b) := List.getElem?_zip_eq_some.2 ⟨ha, hb⟩
      unfold maskOf
      rw [hz]
      cases c
      · exact ha
      · exact hb
    unfold hasR
    rw [hasS_bit, Bool.eq_iff_iff, Bool.and_eq_true, decide_eq_true_iff, decide_eq_true_iff, hm w x c]
    unfold bitAt
    constructor
    · rintro ⟨hx, hb⟩
      refine ⟨hx.1, ⟨hw.1, _, hmask, hb⟩, .inl ⟨hw.2, ?_⟩⟩
      rcases Nat.lt_or_ge (x - 1) t with h3 | h3
      · omega
      · rw [hpow _ h3] at hb; cases hb
    · rintro ⟨hx, ⟨_, q, hq, hb⟩, hor⟩
      rw [hmask] at hq
      cases hq
      exact ⟨by omega, hb⟩
  · obtain ⟨w, x, c⟩ := r
    obtain ⟨hx, ⟨h0, q, hq, hb⟩, hor⟩ := (hm w x c).1 hr
    refine ⟨decide_eq_true (by rw [hlen]; omega), hx, by show x ≤ t; omega⟩
theorem mod_succ (q k : Nat) : q % 2 ^ (k + 1) = q % 2 ^ k + 2 ^ k * (q.testBit k).toNat := by
  rw [Nat.pow_succ, Nat.mod_mul, Nat.testBit_eq_decide_div_mod_eq]
  congr 2
  rcases Nat.mod_two_eq_zero_or_one (q / 2 ^ k) with h | h <;> rw [h] <;> rfl
theorem mask_ok (p tags : Nat) (L : List Rt) (w : Int) (c : Bool) (q : Nat) (hL : L.length < 9223372036854775807) (hq16 : q < 2 ^ 16) (hq : ∀ k, k < 16 → decide ((w, k + 1, c) ∈ L) = q.testBit k) :
    ACalls Try.prog 24 [.ptr 1 0, i64 w, bo c] (refH p tags L) (RetH (u64 q) (refH p tags L)) := by
  cases c
  · refine acalls_of_awp hT mixed Try.func24 rfl (by kernel_rfl) (by kernel_rfl) (Nat.le_of_ble_eq_true rfl) ?_
    refine loopI (α := { k : Nat // k ≤ 16 }) (fun k => [(0, .ptr 1 0), (1, i64 w), (2, bo false), (7, u64 (q % 2 ^ k.val : Nat)), (8, u64 (2 ^ k.val : Nat)), (9, u64 (k.val + 1 : Nat))]) (fun _ => refH p tags L) (fun k => 16 - k.val) ⟨0, Nat.zero_le _⟩ [0, 1] ⟨⟨rfl, rfl, rfl, congrArg u64 (show (0 : Int) = ((q % 2 ^ 0 : Nat) : Int) by rw [Nat.pow_zero, Nat.mod_one]; rfl), rfl, rfl, True.intro⟩, ⟨.inl (by rw [renO_rt]; rfl), .inl rfl, True.intro⟩, rfl, rfl, rfl⟩ ?_
    rintro ⟨k, hk⟩ K hK
    have hinc : wrp .u64 (((k + 1 : Nat) : Int) + 1) = ((k + 1 + 1 : Nat) : Int) := by rw [wrpE, wu64]; omega
    refine forkD (fun h => ?_) (fun h => ?_)
    · have h' : k < 16 := by have : ((k + 1 : Nat) : Int) ≤ 16 := h; omega
      have hpow : 2 ^ k ≤ 2 ^ 15 := Nat.pow_le_pow_right (by decide) (by omega)
      have hmod : q % 2 ^ k < 2 ^ k := Nat.mod_lt _ (Nat.pow_pos (by decide))
      have hms : q % 2 ^ (k + 1) = q % 2 ^ k + 2 ^ k * (q.testBit k).toNat := mod_succ q k
      have hdbl : wrp .u64 ((2 : Int) * ((2 ^ k : Nat) : Int)) = ((2 ^ (k + 1) : Nat) : Int) := by
        rw [wrpE, wu64, Nat.pow_succ]
        generalize 2 ^ k = z at *
        omega
      have hadd : wrp .u64 (((q % 2 ^ k : Nat) : Int) + ((2 ^ k : Nat) : Int)) = ((q % 2 ^ k + 2 ^ k : Nat) : Int) := by
        rw [wrpE, wu64]
        generalize 2 ^ k = z at *
        generalize q % z = y at *
        omega
      have hbit := hq k h'
      refine callH (hasRt_ok p tags L w (k + 1) false hL) [0, 1] rfl ⟨.inl (by rw [renO_rt]; rfl), .inl rfl, True.intro⟩ rfl rfl (H' := refH p tags L) (by simp only [refH, renH, renO_rt]; rfl) ?_
      refine fork (fun g => ?_) (fun g => ?_)
      · rw [hbit] at g
        rw [g] at hms
        refine hK ⟨k + 1, h'⟩ [0, 1] _ (show 16 - k = 16 - (k + 1) + 1 by omega) ⟨⟨rfl, rfl, rfl, congrArg u64 (hadd.trans (congrArg Nat.cast (show _ = q % 2 ^ (k + 1) by rw [hms]; simp))), congrArg u64 hdbl, congrArg u64 hinc, True.intro⟩, ⟨.inl (by rw [renO_rt]; rfl), .inl rfl, True.intro⟩, rfl, rfl, rfl⟩
      · rw [hbit] at g
        rw [g] at hms
        refine hK ⟨k + 1, h'⟩ [0, 1] _ (show 16 - k = 16 - (k + 1) + 1 by omega) ⟨⟨rfl, rfl, rfl, congrArg u64 (congrArg Nat.cast (show q % 2 ^ k = q % 2 ^ (k + 1) by rw [hms]; simp)), congrArg u64 hdbl, congrArg u64 hinc, True.intro⟩, ⟨.inl (by rw [renO_rt]; rfl), .inl rfl, True.intro⟩, rfl, rfl, rfl⟩
    · have h' : k = 16 := by have : ¬ ((k + 1 : Nat) : Int) ≤ 16 := h; omega
      subst h'
      refine endH rfl rfl rfl ⟨.inl rfl, .inl rfl, True.intro⟩ (Nat.le_refl 2) (belowH_ref p tags L) (congrArg u64 (congrArg Nat.cast (Nat.mod_eq_of_lt hq16)))
  · refine acalls_of_awp hT mixed Try.func24 rfl (by kernel_rfl) (by kernel_rfl) (Nat.le_of_ble_eq_true rfl) ?_
    refine loopI (α := { k : Nat // k ≤ 16 }) (fun k => [(0, .ptr 1 0), (1, i64 w), (2, bo true), (7, u64 (q % 2 ^ k.val : Nat)), (8, u64 (2 ^ k.val : Nat)), (9, u64 (k.val + 1 : Nat))]) (fun _ => refH p tags L) (fun k => 16 - k.val) ⟨0, Nat.zero_le _⟩ [0, 1] ⟨⟨rfl, rfl, rfl, congrArg u64 (show (0 : Int) = ((q % 2 ^ 0 : Nat) : Int) by rw [Nat.pow_zero, Nat.mod_one]; rfl), rfl, rfl, True.intro⟩, ⟨.inl (by rw [renO_rt]; rfl), .inl rfl, True.intro⟩, rfl, rfl, rfl⟩ ?_
    rintro ⟨k, hk⟩ K hK
    have hinc : wrp .u64 (((k + 1 : Nat) : Int) + 1) = ((k + 1 + 1 : Nat) : Int) := by rw [wrpE, wu64]; omega
    refine forkD (fun h => ?_) (fun h => ?_)
    · have h' : k < 16 := by have : ((k + 1 : Nat) : Int) ≤ 16 := h; omega
      have hpow : 2 ^ k ≤ 2 ^ 15 := Nat.pow_le_pow_right (by decide) (by omega)
      have hmod : q % 2 ^ k < 2 ^ k := Nat.mod_lt _ (Nat.pow_pos (by decide))
      have hms : q % 2 ^ (k + 1) = q % 2 ^ k + 2 ^ k * (q.testBit k).toNat := mod_succ q k
      have hdbl : wrp .u64 ((2 : Int) * ((2 ^ k : Nat) : Int)) = ((2 ^ (k + 1) : Nat) : Int) := by
        rw [wrpE, wu64, Nat.pow_succ]
        generalize 2 ^ k = z at *
        omega
      have hadd : wrp .u64 (((q % 2 ^ k : Nat) : Int) + ((2 ^ k : Nat) : Int)) = ((q % 2 ^ k + 2 ^ k : Nat) : Int) := by
        rw [wrpE, wu64]
        generalize 2 ^ k = z at *
        generalize q % z = y at *
        omega
      have hbit := hq k h'
      refine callH (hasRt_ok p tags L w (k + 1) true hL) [0, 1] rfl ⟨.inl (by rw [renO_rt]; rfl), .inl rfl, True.intro⟩ rfl rfl (H' := refH p tags L) (by simp only [refH, renH, renO_rt]; rfl) ?_
      refine fork (fun g => ?_) (fun g => ?_)
      · rw [hbit] at g
        rw [g] at hms
        refine hK ⟨k + 1, h'⟩ [0, 1] _ (show 16 - k = 16 - (k + 1) + 1 by omega) ⟨⟨rfl, rfl, rfl, congrArg u64 (hadd.trans (congrArg Nat.cast (show _ = q % 2 ^ (k + 1) by rw [hms]; simp))), congrArg u64 hdbl, congrArg u64 hinc, True.intro⟩, ⟨.inl (by rw [renO_rt]; rfl), .inl rfl, True.intro⟩, rfl, rfl, rfl⟩
      · rw [hbit] at g
        rw [g] at hms
        refine hK ⟨k + 1, h'⟩ [0, 1] _ (show 16 - k = 16 - (k + 1) + 1 by omega) ⟨⟨rfl, rfl, rfl, congrArg u64 (congrArg Nat.cast (show q % 2 ^ k = q % 2 ^ (k + 1) by rw [hms]; simp)), congrArg u64 hdbl, congrArg u64 hinc, True.intro⟩, ⟨.inl (by rw [renO_rt]; rfl), .inl rfl, True.intro⟩, rfl, rfl, rfl⟩
    · have h' : k = 16 := by have : ¬ ((k + 1 : Nat) : Int) ≤ 16 := h; omega
      subst h'
      refine endH rfl rfl rfl ⟨.inl rfl, .inl rfl, True.intro⟩ (Nat.le_refl 2) (belowH_ref p tags L) (congrArg u64 (congrArg Nat.cast (Nat.mod_eq_of_lt hq16)))
end Go.Proofs.Ytofinmlloefocaa.A
