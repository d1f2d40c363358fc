/- The document's table, loaded out of masks. No condition. -/
import Derived.Test.YtofinmlloefocaaCu
namespace Go.Proofs.Ytofinmlloefocaa.A
open Go
set_option linter.unusedVariables false
set_option maxRecDepth 100000
set_option pp.maxSteps 1500

def bitAt (p m : List Nat) (w : Int) (x : Nat) (c : Bool) : Prop := 0 ≤ w ∧ ∃ q, (if c = true then m else p)[w.toNat]? = some q ∧ q.testBit (x - 1) = true
/-- As far as rights were made: of those before one all, of one those below a tag. -/
def Made (t : Nat) (p m : List Nat) (who tag : Nat) (L : List Rt) : Prop := ∀ w x c, (w, x, c) ∈ L ↔ 1 ≤ x ∧ bitAt p m w x c ∧ ((w < (who : Int) ∧ x ≤ t) ∨ (w = (who : Int) ∧ x < tag))
def Gone (t : Nat) (p m : List Nat) (who : Nat) : Prop := ∀ k a b, k < who → p[k]? = some a → m[k]? = some b → a < 2 ^ t ∧ b < 2 ^ t
structure LdIn (t : Nat) (p m : List Nat) (who : Nat) (pw mw : Nat) : Type where
  tag : Nat
  L : List Rt
  lo : 1 ≤ tag
  hi : tag ≤ t + 1
  made : Made t p m who tag L
  len : L.length ≤ 2 * t * who + 2 * (tag - 1)
structure LdOut (t : Nat) (p m : List Nat) : Type where
  who : Nat
  L : List Rt
  hi : who ≤ p.length
  made : Made t p m who 1 L
  gone : Gone t p m who
  len : L.length ≤ 2 * t * who
theorem made_zero (t : Nat) (p m : List Nat) : Made t p m 0 1 [] := fun w x c => ⟨fun h => (by cases h), fun ⟨h1, ⟨h0, _⟩, h2⟩ => by omega⟩
theorem made_next {t : Nat} {p m : List Nat} {who : Nat} {L : List Rt} (h : Made t p m who (t + 1) L) : Made t p m (who + 1) 1 L := fun w x c => (h w x c).trans ⟨fun ⟨h1, h2, h3⟩ => ⟨h1, h2, by omega⟩, fun ⟨h1, h2, h3⟩ => ⟨h1, h2, by omega⟩⟩
/-- A bit's right, if there is the bit. -/
def put (L : List Rt) (who tag a : Nat) (c : Bool) : List Rt := if a % 2 = 1 then L ++ [((who : Int), tag, c)] else L
theorem put_len {L : List Rt} {who tag a : Nat} {c : Bool} : (put L who tag a c).length ≤ L.length + 1 := by
  unfold put
  split <;> simp
theorem mem_put {L : List Rt} {who tag a : Nat} {c : Bool} {r : Rt} : r ∈ put L who tag a c ↔ r ∈ L ∨ (a % 2 = 1 ∧ r = ((who : Int), tag, c)) := by
  unfold put
  split
  · rename_i h
    simp [h]
  · rename_i h
    simp [h]
theorem testBit_half (q tag : Nat) : (q / 2 ^ (tag - 1) % 2 = 1) ↔ q.testBit (tag - 1) = true := by
  rw [Nat.testBit_eq_decide_div_mod_eq]
  exact decide_eq_true_iff.symm
theorem made_put {t : Nat} {p m : List Nat} {who tag : Nat} {L : List Rt} {pw mw : Nat} (hp : p[who]? = some pw) (hm : m[who]? = some mw) (h1 : 1 ≤ tag) (h2 : tag ≤ t) (h : Made t p m who tag L) :
    Made t p m who (tag + 1) (put (put L who tag (pw / 2 ^ (tag - 1)) false) who tag (mw / 2 ^ (tag - 1)) true) := by
  intro w x c
  rw [mem_put, mem_put, h w x c, testBit_half, testBit_half]
  have hat : ∀ c, bitAt p m (who : Int) tag c ↔ (if c = true then mw else pw).testBit (tag - 1) = true := fun c => by
    unfold bitAt
    rw [Int.toNat_natCast]
    cases c
    · simp [hp]
    · simp [hm]
  constructor
  · rintro ((⟨h3, h4, h5⟩ | ⟨h3, h4⟩) | ⟨h3, h4⟩)
    · exact ⟨h3, h4, by omega⟩
    · cases h4
      exact ⟨h1, (hat false).2 h3, by omega⟩
    · cases h4
      exact ⟨h1, (hat true).2 h3, by omega⟩
  · rintro ⟨h3, h4, h5⟩
    by_cases hx : w = (who : Int) ∧ x = tag
    · obtain ⟨rfl, rfl⟩ := hx
      have h6 := (hat c).1 h4
      cases c
      · exact .inl (.inr ⟨h6, rfl⟩)
      · exact .inr ⟨h6, rfl⟩
    · exact .inl (.inl ⟨h3, h4, by omega⟩)
def loadR (tags : Int) (p m : List Nat) : AEnd → Heap → Prop := fun E G =>
  (Loads tags p m ∧ ∃ L, Made tags.toNat p m p.length 1 L ∧ L.length ≤ 2 * tags.toNat * p.length ∧ E = .ret (.tup [.ptr 1 0, bo true]) ∧ G = refH p.length tags.toNat L) ∨ (¬ Loads tags p m ∧ E = .ret (.tup [.sc (.pointer none), bo false]) ∧ G = [])
theorem half {a : Nat} (ha : a < 18446744073709551616) : (hd ((a : Int).tmod 2) == 1) = decide (a % 2 = 1) ∧ wrp .u64 ((a : Int).tdiv 2) = ((a / 2 : Nat) : Int) := by
  have e1 : (a : Int).tmod 2 = ((a % 2 : Nat) : Int) := by rw [Int.tmod_eq_emod_of_nonneg (by omega)]; omega
  have e2 : (a : Int).tdiv 2 = ((a / 2 : Nat) : Int) := by rw [Int.tdiv_eq_ediv_of_nonneg (by omega)]; omega
  refine ⟨?_, ?_⟩
  · rw [hd_eq, e1]
    by_cases h : a % 2 = 1
    · rw [h]; rfl
    · rw [decide_eq_false h, show a % 2 = 0 by omega]; rfl
  · rw [e2, wrpE, wu64]
    omega
theorem loadM_ok (tags : Int) (p m : List Nat) (hp : ∀ x ∈ p, x < 18446744073709551616) (hm : ∀ x ∈ m, x < 18446744073709551616) (hpl : p.length < 1000000) (hml : m.length < 1000000) :
    ACalls Try.prog 23 [i64 tags, us p, us m] [] (loadR tags p m) := by
  refine acalls_of_awpC [13, 15] hT mixed Try.func23 rfl (by kernel_rfl) (by kernel_rfl) (Nat.le_of_ble_eq_true rfl) ?_
  refine forkD (fun h1 => endG (G := []) rfl rfl rfl True.intro (Nat.zero_le 0) rfl (.inr ⟨fun hh => by have := hh.1; omega, rfl, rfl⟩)) (fun h1 => ?_)
  refine forkD (fun h2 => endG (G := []) rfl rfl rfl True.intro (Nat.zero_le 0) rfl (.inr ⟨fun hh => by have := hh.2.1; omega, rfl, rfl⟩)) (fun h2 => ?_)
  refine fork (fun h3 => endG (G := []) rfl rfl rfl True.intro (Nat.zero_le 0) rfl (.inr ⟨fun hh => by have := hh.2.2.1; have := bne_iff_ne.1 h3; omega, rfl, rfl⟩)) (fun h3 => ?_)
  have h3 := bne_eq_false_iff_eq.1 h3
  refine forkD (fun h4 => endG (G := []) rfl rfl rfl True.intro (Nat.zero_le 0) rfl (.inr ⟨fun hh => by have := hh.2.2.2.1; omega, rfl, rfl⟩)) (fun h4 => ?_)
  refine forkD (fun h5 => endG (G := []) rfl rfl rfl True.intro (Nat.zero_le 0) rfl (.inr ⟨fun hh => by have := hh.2.2.2.2.1; omega, rfl, rfl⟩)) (fun h5 => ?_)
  obtain ⟨t, rfl⟩ : ∃ t : Nat, tags = t := ⟨tags.toNat, by omega⟩
  refine loopG (α := LdOut t p m) (fun z => [(0, i64 t), (1, us p), (2, us m), (8, .ptr 1 0), (9, i64 (z.who : Nat))]) (fun z => refH p.length t z.L) [] (fun z => p.length - z.who) ⟨0, [], Nat.zero_le _, made_zero t p m, fun k _ _ hk => absurd hk (Nat.not_lt_zero k), Nat.zero_le _⟩ [.cell 0 2 3] [1, 0] ⟨⟨rfl, rfl, rfl, rfl, rfl, True.intro⟩, ⟨.inl rfl, .inl rfl, True.intro⟩, rfl, rfl, rfl⟩ ?_
  rintro ⟨who, L, hwho, hmade, hgone, hlen⟩ K hK
  have hinc : wrp .i64 ((who : Int) + 1) = ((who + 1 : Nat) : Int) := by rw [wrpE, wi64]; omega
  refine forkD (fun h => ?_) (fun h => ?_)
  · have h' : who < p.length := by have : (who : Int) < (p.length : Int) := h; omega
    obtain ⟨pw, hpw⟩ : ∃ y, p[who]? = some y := ⟨_, List.getElem?_eq_getElem h'⟩
    obtain ⟨mw, hmw⟩ : ∃ z, m[who]? = some z := ⟨_, List.getElem?_eq_getElem (by omega)⟩
    have hb := (show (0 : Int) ≤ (who : Nat) ∧ ((who : Nat) : Int) < (p.length : Nat) by omega)
    have hbm := (show (0 : Int) ≤ (who : Nat) ∧ ((who : Nat) : Int) < (m.length : Nat) by omega)
    have hpw2 := hp pw (List.mem_of_getElem? hpw)
    have hmw2 := hm mw (List.mem_of_getElem? hmw)
    refine ⟨[0, 0, 0, 0, 0, 0, 0, 0, 0, 0], [[], [], [0, 1], [0, 1, 2], [], [], [4, 5], [4, 5, 6], [0, 1, 2, 3], [0, 1, 2, 3, 4, 5, 6, 7, 8]], [0, 0, 0, 0, 0, 0, 0, 0, 0, 0], [], [[1], [9], [47, 48], [49], [2], [9], [51, 52], [53], [50], [54]], Ob.intro (by kernel_rfl) ?_⟩
    refine Ob.intro hb ?_
    refine optK_intro (nth_map hpw) ?_
    refine Ob.intro hbm ?_
    refine optK_intro (nth_map hmw) ?_
    refine optK_intro (nth_map hpw) ?_
    refine same ?_
    refine optK_intro (nth_map hmw) ?_
    refine same ?_
    refine loopI (α := LdIn t p m who pw mw) (fun z => [(0, i64 t), (1, us p), (2, us m), (8, .ptr 1 0), (9, i64 (who : Nat)), (10, u64 (pw / 2 ^ (z.tag - 1) : Nat)), (11, u64 (mw / 2 ^ (z.tag - 1) : Nat)), (12, i64 (z.tag : Nat))]) (fun z => refH p.length t z.L) (fun z => t + 1 - z.tag) ⟨1, L, Nat.le_refl _, by omega, hmade, by omega⟩ [0, 1] ⟨⟨rfl, rfl, rfl, rfl, rfl, ?_, ?_, rfl, True.intro⟩, ⟨.inl (by rw [renO_rt]; rfl), .inl rfl, True.intro⟩, rfl, rfl, rfl⟩ ?_
    · show u64 pw = u64 (pw / 2 ^ (1 - 1) : Nat)
      rw [Nat.pow_zero, Nat.div_one]
    · show u64 mw = u64 (mw / 2 ^ (1 - 1) : Nat)
      rw [Nat.pow_zero, Nat.div_one]
    rintro ⟨tag, L2, hlo, hhi, hmade2, hlen2⟩ K2 hK2
    refine forkD (fun h6 => ?_) (fun h6 => ?_)
    · have h6' : tag ≤ t := by have : (tag : Int) ≤ (t : Int) := h6; omega
      have ha1 : pw / 2 ^ (tag - 1) < 18446744073709551616 := Nat.lt_of_le_of_lt (Nat.div_le_self ..) hpw2
      have ha2 : mw / 2 ^ (tag - 1) < 18446744073709551616 := Nat.lt_of_le_of_lt (Nat.div_le_self ..) hmw2
      have hq1 : pw / 2 ^ (tag - 1) / 2 = pw / 2 ^ (tag + 1 - 1) := by rw [Nat.div_div_eq_div_mul, ← Nat.pow_succ, show (tag - 1).succ = tag + 1 - 1 by omega]
      have hq2 : mw / 2 ^ (tag - 1) / 2 = mw / 2 ^ (tag + 1 - 1) := by rw [Nat.div_div_eq_div_mul, ← Nat.pow_succ, show (tag - 1).succ = tag + 1 - 1 by omega]
      have hmade3 := made_put hpw hmw hlo h6' hmade2
      have e1 : wrp .u64 (tag : Int) = (tag : Int) := by rw [wrpE, wu64]; omega
      have hincT : wrp .i64 ((tag : Int) + 1) = ((tag + 1 : Nat) : Int) := by rw [wrpE, wi64]; omega
      have hhw : 2 * t * who ≤ 2 * t * 8 := Nat.mul_le_mul_left _ (by omega)
      generalize hA : pw / 2 ^ (tag - 1) = a at *
      generalize hB : mw / 2 ^ (tag - 1) = b at *
      have hl1 := put_len (L := L2) (who := who) (tag := tag) (a := a) (c := false)
      have hl2 := put_len (L := put L2 who tag a false) (who := who) (tag := tag) (a := b) (c := true)
      refine cutI (α := Unit) (fun _ => [(0, i64 t), (1, us p), (2, us m), (8, .ptr 1 0), (9, i64 (who : Nat)), (10, u64 a), (11, u64 b), (12, i64 (tag : Nat))]) (fun _ => refH p.length t (put L2 who tag a false)) [] (fun K3 hK3 => ?_) (fun _ => ?_)
      · refine Ob.intro (by decide) ?_
        have hh := (half ha1).1
        refine fork (fun g => ?_) (fun g => ?_)
        · rw [hh] at g
          have hput : put L2 who tag a false = L2 ++ [((who : Int), tag, false)] := if_pos (of_decide_eq_true g)
          refine Ob.intro rfl ?_
          refine optK_intro (flat_rdAll rtC_len rfl rfl) ?_
          refine Ob.intro (show (L2.length + 1) * 24 ≤ 140737488355328 ∧ L2.length + 1 ≤ 9223372036854775807 by omega) ?_
          refine hK3 () [] [3, 1] _ ⟨⟨rfl, rfl, rfl, rfl, rfl, rfl, rfl, rfl, True.intro⟩, ⟨.inl ?_, .inl ?_, True.intro⟩, rfl, rfl, rfl⟩
          · rw [renO_rt, hput, flat_append]
            exact congrArg (fun z => some (AObj.row (flat rtC L2 ++ [i64 who, u64 z, bo false]))) e1
          · rw [hput, List.length_append]
            rfl
        · rw [hh] at g
          have hput : put L2 who tag a false = L2 := if_neg (of_decide_eq_false g)
          refine hK3 () [] [0, 1] _ ⟨⟨rfl, rfl, rfl, rfl, rfl, rfl, rfl, rfl, True.intro⟩, ⟨.inl ?_, .inl ?_, True.intro⟩, rfl, rfl, rfl⟩
          · rw [renO_rt, hput]
            rfl
          · rw [hput]
            rfl
      · refine cutI (α := Unit) (fun _ => [(0, i64 t), (1, us p), (2, us m), (8, .ptr 1 0), (9, i64 (who : Nat)), (10, u64 a), (11, u64 b), (12, i64 (tag : Nat))]) (fun _ => refH p.length t (put (put L2 who tag a false) who tag b true)) [] (fun K3 hK3 => ?_) (fun _ => ?_)
        · generalize put L2 who tag a false = L3 at *
          refine Ob.intro (by decide) ?_
          have hh := (half ha2).1
          refine fork (fun g => ?_) (fun g => ?_)
          · rw [hh] at g
            have hput : put L3 who tag b true = L3 ++ [((who : Int), tag, true)] := if_pos (of_decide_eq_true g)
            refine Ob.intro rfl ?_
            refine optK_intro (flat_rdAll rtC_len rfl rfl) ?_
            refine Ob.intro (show (L3.length + 1) * 24 ≤ 140737488355328 ∧ L3.length + 1 ≤ 9223372036854775807 by omega) ?_
            refine hK3 () [] [3, 1] _ ⟨⟨rfl, rfl, rfl, rfl, rfl, rfl, rfl, rfl, True.intro⟩, ⟨.inl ?_, .inl ?_, True.intro⟩, rfl, rfl, rfl⟩
            · rw [renO_rt, hput, flat_append]
              exact congrArg (fun z => some (AObj.row (flat rtC L3 ++ [i64 who, u64 z, bo true]))) e1
            · rw [hput, List.length_append]
              rfl
          · rw [hh] at g
            have hput : put L3 who tag b true = L3 := if_neg (of_decide_eq_false g)
            refine hK3 () [] [0, 1] _ ⟨⟨rfl, rfl, rfl, rfl, rfl, rfl, rfl, rfl, True.intro⟩, ⟨.inl ?_, .inl ?_, True.intro⟩, rfl, rfl, rfl⟩
            · rw [renO_rt, hput]
              rfl
            · rw [hput]
              rfl
        · refine Ob.intro (by decide) ?_
          refine Ob.intro (by decide) ?_
          refine hK2 ⟨tag + 1, put (put L2 who tag a false) who tag b true, by omega, by omega, hmade3, by omega⟩ [0, 1] _ (show t + 1 - tag = t + 1 - (tag + 1) + 1 by omega) ⟨⟨rfl, rfl, rfl, rfl, rfl, ?_, ?_, congrArg i64 hincT, True.intro⟩, ⟨.inl (by rw [renO_rt]; rfl), .inl rfl, True.intro⟩, rfl, rfl, rfl⟩
          · show u64 (wrp .u64 ((a : Int).tdiv 2)) = u64 (pw / 2 ^ (tag + 1 - 1) : Nat)
            rw [(half ha1).2, hq1]
          · show u64 (wrp .u64 ((b : Int).tdiv 2)) = u64 (mw / 2 ^ (tag + 1 - 1) : Nat)
            rw [(half ha2).2, hq2]
    · have h6' : tag = t + 1 := by have : ¬ (tag : Int) ≤ (t : Int) := h6; omega
      subst h6'
      have hz1 := Nat.div_eq_zero_iff_lt (x := pw) (show 0 < 2 ^ t from Nat.pow_pos (by decide))
      have hz2 := Nat.div_eq_zero_iff_lt (x := mw) (show 0 < 2 ^ t from Nat.pow_pos (by decide))
      have nope : ¬ (pw < 2 ^ t ∧ mw < 2 ^ t) → ¬ Loads t p m := fun hn hh => hn ⟨hh.2.2.2.2.2.1 pw (List.mem_of_getElem? hpw), hh.2.2.2.2.2.2 mw (List.mem_of_getElem? hmw)⟩
      refine forkD (fun h7 => ?_) (fun h7 => ?_)
      · have h7 : ((pw / 2 ^ t : Nat) : Int) > 0 := h7
        refine endG (G := []) rfl rfl rfl True.intro (Nat.zero_le 0) rfl (.inr ⟨nope (fun hh => by have := hz1.2 hh.1; omega), rfl, rfl⟩)
      · have h7 : ¬ ((pw / 2 ^ t : Nat) : Int) > 0 := h7
        refine forkD (fun h8 => ?_) (fun h8 => ?_)
        · have h8 : ((mw / 2 ^ t : Nat) : Int) > 0 := h8
          refine endG (G := []) rfl rfl rfl True.intro (Nat.zero_le 0) rfl (.inr ⟨nope (fun hh => by have := hz2.2 hh.2; omega), rfl, rfl⟩)
        · have h8 : ¬ ((mw / 2 ^ t : Nat) : Int) > 0 := h8
          have g1 := hz1.1 (Nat.eq_zero_of_not_pos fun hh => h7 (Int.natCast_pos.2 hh))
          have g2 := hz2.1 (Nat.eq_zero_of_not_pos fun hh => h8 (Int.natCast_pos.2 hh))
          refine hK ⟨who + 1, L2, h', made_next hmade2, fun k x y hk hx hy => ?_, by rw [Nat.mul_add]; omega⟩ [] [0, 1] _ (show p.length - who = p.length - (who + 1) + 1 by omega) ⟨⟨rfl, rfl, rfl, rfl, congrArg i64 hinc, True.intro⟩, ⟨.inl (by rw [renO_rt]; rfl), .inl rfl, True.intro⟩, rfl, rfl, rfl⟩
          by_cases hk2 : k = who
          · subst hk2
            rw [hpw] at hx
            rw [hmw] at hy
            cases hx
            cases hy
            exact ⟨g1, g2⟩
          · exact hgone k x y (by omega) hx hy
  · have h' : who = p.length := by have : ¬ (who : Int) < (p.length : Int) := h; omega
    subst h'
    refine endG (G := refH p.length t L) rfl rfl rfl ⟨.inl rfl, .inl rfl, True.intro⟩ (Nat.zero_le 2) (belowH_ref p.length t L) (.inl ⟨⟨by omega, by omega, by omega, by omega, by omega, fun x hx => ?_, fun x hx => ?_⟩, L, hmade, hlen, rfl, rfl⟩)
    · obtain ⟨k, hk, rfl⟩ := List.getElem_of_mem hx
      exact (hgone k _ _ hk (List.getElem?_eq_getElem hk) (List.getElem?_eq_getElem (show k < m.length by omega))).1
    · obtain ⟨k, hk, rfl⟩ := List.getElem_of_mem hx
      exact (hgone k _ _ (by omega) (List.getElem?_eq_getElem (show k < p.length by omega)) (List.getElem?_eq_getElem hk)).2
end Go.Proofs.Ytofinmlloefocaa.A
