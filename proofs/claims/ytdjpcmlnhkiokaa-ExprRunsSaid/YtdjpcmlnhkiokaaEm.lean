/- expr: one step, by the document. No condition. -/
import Derived.Test.YtdjpcmlnhkiokaaEl
namespace Go.Proofs.Ytdjpcmlnhkiokaa.A
open Go
set_option linter.unusedVariables false
set_option maxRecDepth 100000
set_option pp.maxSteps 1500

theorem xor64 {a : Nat} (ha : a < 18446744073709551616) : wrp .u64 ((BitVec.ofInt IntKind.u64.bits (a : Int) ^^^ BitVec.ofInt IntKind.u64.bits 9223372036854775808).toNat : Int) = ((Op.negFloat .f64 a : Nat) : Int) := by
  have e1 : (BitVec.ofInt 64 (a : Int)).toNat = a := by rw [BitVec.toNat_ofInt]; omega
  have e2 : (BitVec.ofInt 64 (9223372036854775808 : Int)).toNat = 9223372036854775808 := by decide
  have e : (BitVec.ofInt IntKind.u64.bits (a : Int) ^^^ BitVec.ofInt IntKind.u64.bits 9223372036854775808).toNat = a ^^^ 9223372036854775808 := by
    show (BitVec.ofInt 64 (a : Int) ^^^ BitVec.ofInt 64 9223372036854775808).toNat = _
    rw [BitVec.toNat_xor, e1, e2]
  have hn : Op.negFloat .f64 a = a ^^^ 9223372036854775808 := rfl
  have hlt := neg_lt ha
  rw [hn] at hlt ⊢
  rw [e, wrpE, wu64]
  omega
theorem rOne_ok (r : Nat) (hr : r < 18446744073709551616) : ACalls Try.prog 31 [fl r] [] (Ret (fl (bitsO (some r)))) := by
  have h := rBits_ok r hr
  have e : bitsO (some r) = bitsB r := rfl
  rw [e]
  generalize bitsB r = z at *
  refine acalls_of_awp hT mixed Try.func31 rfl (by kernel_rfl) (by kernel_rfl) (Nat.le_of_ble_eq_true rfl) ?_
  refine callP h rfl rfl ?_
  refine callP (float64frombits_ok z) rfl rfl ?_
  refine end0 rfl rfl rfl rfl
theorem rOne_nan : ACalls Try.prog 31 [.nan .f64] [] (Ret (fl (bitsO none))) := by
  refine acalls_of_awp hT mixed Try.func31 rfl (by kernel_rfl) (by kernel_rfl) (Nat.le_of_ble_eq_true rfl) ?_
  refine callP rBits_nan rfl rfl ?_
  refine callP (float64frombits_ok nanW) rfl rfl ?_
  refine end0 rfl rfl rfl rfl
theorem rd1_at {α : Type} {g : α → AV} {H : Heap} {p q k : Nat} {L : List α} {x : α} (hp : nth H p = some (.row (L.map g))) (h : L[k]? = some x) (hq : q = k) : rd1 H p q = some (g x) := by
  subst hq
  unfold rd1
  rw [hp]
  simp only [nth_eq, List.getElem?_map, h, Option.map_some]
def RStepR (o : Option (List Nat)) (l : List Nat) : AEnd → Heap → Prop := fun E G => match o with
  | some o => (E = .ret (.tup [.slc 1 0 o.length 1, bo true]) ∧ G = [.row (l.map fl), .row (o.map fl)]) ∨ ∃ j, E = .ret (.tup [.slc 0 j o.length 1, bo true]) ∧ G = [.row (l.map fl)] ∧ (l.drop j).take o.length = o ∧ j + o.length ≤ l.length
  | none => ∃ j n, E = .ret (.tup [.slc 0 j n 1, bo false]) ∧ G = [.row (l.map fl)]
theorem below1 (l : List Nat) : belowH 1 [.row (l.map fl)] = true := by
  simp only [belowH, belowO, belowL_fl]
  rfl
theorem below2 (l o : List Nat) : belowH 2 [.row (l.map fl), .row (o.map fl)] = true := by
  simp only [belowH, belowO, belowL_fl]
  rfl
theorem rStep3 (own x off k : Nat) (l : List Nat) (hc : ∀ b ∈ l, cW b) (hk : k = 2) (hl : off + 2 ≤ l.length) : ACalls Try.prog 27 [i64 3, fl own, fl x, .slc 0 off k 1] [.row (l.map fl)] (RStepR (outS 3 own x ((l.drop off).take 2)) l) := by
  subst hk
  obtain ⟨a, b, ha, hb, hca, hcb, hq⟩ : ∃ a b, l[off]? = some a ∧ l[off + 1]? = some b ∧ cW a ∧ cW b ∧ (l.drop off).take 2 = [a, b] := by
    have h := List.getElem?_eq_getElem (l := l) (i := off) (by omega)
    have h' := List.getElem?_eq_getElem (l := l) (i := off + 1) (by omega)
    refine ⟨l[off], l[off + 1], h, h', hc _ (List.getElem_mem _), hc _ (List.getElem_mem _), ?_⟩
    rw [List.drop_eq_getElem_cons (by omega), List.drop_eq_getElem_cons (by omega)]
    rfl
  rw [hq]
  have hi0 : (0 : Int) ≤ 0 ∧ 0 < ((2 : Nat) : Int) := by decide
  have hi1 : (0 : Int) ≤ 1 ∧ 1 < ((2 : Nat) : Int) := by decide
  have hx : ∀ G : Heap, rd1 (.row (l.map fl) :: G) 0 (off + (0 : Int).toNat * 1) = some (fl a) := fun G => rd1_at rfl ha rfl
  have hy : ∀ G : Heap, rd1 (.row (l.map fl) :: G) 0 (off + (1 : Int).toNat * 1) = some (fl b) := fun G => rd1_at rfl hb rfl
  have e : outS 3 own x [a, b] = some [bitsO (fari .add .f64 a b)] := rfl
  rw [e]
  refine acalls_of_awp hT mixed Try.func27 rfl (by kernel_rfl) (by kernel_rfl) (Nat.le_of_ble_eq_true rfl) ?_
  refine ⟨[0, 0, 0, 0, 0, 0, 0, 1, 1, 1, 1], [[], [0], [0, 1], [], [3], [3, 4], [0, 1, 2, 3, 4, 5], [0, 1, 2, 3, 4, 5, 6], [0, 1, 2, 3, 4, 5, 6, 7], [0, 1, 2, 3, 4, 5, 6, 7, 8], [0, 1, 2, 3, 4, 5, 6, 7, 8, 9]], [0, 0, 0, 0, 0, 0, 0, 0, 0, 1, 1], [7], [[3], [23], [24], [3], [26], [27], [25, 28], [29], [30], [31], []], Ob.intro (by kernel_rfl) ?_⟩
  repeat first | refine same ?_ | refine Ob.intro hi0 ?_ | refine Ob.intro hi1 ?_ | refine optK_intro (hx _) ?_ | refine optK_intro (hy _) ?_
  refine forO (fun o => ?_) (fun r o => ?_)
  · rw [o]
    repeat first | refine same ?_ | refine Ob.intro hi0 ?_ | refine Ob.intro hi1 ?_ | refine optK_intro (hx _) ?_ | refine optK_intro (hy _) ?_
    refine callP rOne_nan rfl rfl ?_
    repeat first | refine same ?_ | refine Ob.intro hi0 ?_ | refine Ob.intro hi1 ?_ | refine optK_intro (hx _) ?_ | refine optK_intro (hy _) ?_
    refine endG rfl rfl rfl (G := [.row (l.map fl), .row ([bitsO none].map fl)]) ⟨.inl rfl, .inl rfl, True.intro⟩ (show 1 ≤ 2 by decide) (below2 _ _) (.inl ⟨rfl, rfl⟩)
  · rw [o]
    repeat first | refine same ?_ | refine Ob.intro hi0 ?_ | refine Ob.intro hi1 ?_ | refine optK_intro (hx _) ?_ | refine optK_intro (hy _) ?_
    refine callP (rOne_ok r (fari_lt o)) rfl rfl ?_
    repeat first | refine same ?_ | refine Ob.intro hi0 ?_ | refine Ob.intro hi1 ?_ | refine optK_intro (hx _) ?_ | refine optK_intro (hy _) ?_
    refine endG rfl rfl rfl (G := [.row (l.map fl), .row ([bitsO (some r)].map fl)]) ⟨.inl rfl, .inl rfl, True.intro⟩ (show 1 ≤ 2 by decide) (below2 _ _) (.inl ⟨rfl, rfl⟩)
theorem rStep4 (own x off k : Nat) (l : List Nat) (hc : ∀ b ∈ l, cW b) (hk : k = 2) (hl : off + 2 ≤ l.length) : ACalls Try.prog 27 [i64 4, fl own, fl x, .slc 0 off k 1] [.row (l.map fl)] (RStepR (outS 4 own x ((l.drop off).take 2)) l) := by
  subst hk
  obtain ⟨a, b, ha, hb, hca, hcb, hq⟩ : ∃ a b, l[off]? = some a ∧ l[off + 1]? = some b ∧ cW a ∧ cW b ∧ (l.drop off).take 2 = [a, b] := by
    have h := List.getElem?_eq_getElem (l := l) (i := off) (by omega)
    have h' := List.getElem?_eq_getElem (l := l) (i := off + 1) (by omega)
    refine ⟨l[off], l[off + 1], h, h', hc _ (List.getElem_mem _), hc _ (List.getElem_mem _), ?_⟩
    rw [List.drop_eq_getElem_cons (by omega), List.drop_eq_getElem_cons (by omega)]
    rfl
  rw [hq]
  have hi0 : (0 : Int) ≤ 0 ∧ 0 < ((2 : Nat) : Int) := by decide
  have hi1 : (0 : Int) ≤ 1 ∧ 1 < ((2 : Nat) : Int) := by decide
  have hx : ∀ G : Heap, rd1 (.row (l.map fl) :: G) 0 (off + (0 : Int).toNat * 1) = some (fl a) := fun G => rd1_at rfl ha rfl
  have hy : ∀ G : Heap, rd1 (.row (l.map fl) :: G) 0 (off + (1 : Int).toNat * 1) = some (fl b) := fun G => rd1_at rfl hb rfl
  have e : outS 4 own x [a, b] = some [bitsO (fari .sub .f64 a b)] := rfl
  rw [e]
  refine acalls_of_awp hT mixed Try.func27 rfl (by kernel_rfl) (by kernel_rfl) (Nat.le_of_ble_eq_true rfl) ?_
  refine ⟨[0, 0, 0, 0, 0, 0, 0, 1, 1, 1, 1], [[], [0], [0, 1], [], [3], [3, 4], [0, 1, 2, 3, 4, 5], [0, 1, 2, 3, 4, 5, 6], [0, 1, 2, 3, 4, 5, 6, 7], [0, 1, 2, 3, 4, 5, 6, 7, 8], [0, 1, 2, 3, 4, 5, 6, 7, 8, 9]], [0, 0, 0, 0, 0, 0, 0, 0, 0, 1, 1], [7], [[3], [34], [35], [3], [37], [38], [36, 39], [40], [41], [42], []], Ob.intro (by kernel_rfl) ?_⟩
  repeat first | refine same ?_ | refine Ob.intro hi0 ?_ | refine Ob.intro hi1 ?_ | refine optK_intro (hx _) ?_ | refine optK_intro (hy _) ?_
  refine forO (fun o => ?_) (fun r o => ?_)
  · rw [o]
    repeat first | refine same ?_ | refine Ob.intro hi0 ?_ | refine Ob.intro hi1 ?_ | refine optK_intro (hx _) ?_ | refine optK_intro (hy _) ?_
    refine callP rOne_nan rfl rfl ?_
    repeat first | refine same ?_ | refine Ob.intro hi0 ?_ | refine Ob.intro hi1 ?_ | refine optK_intro (hx _) ?_ | refine optK_intro (hy _) ?_
    refine endG rfl rfl rfl (G := [.row (l.map fl), .row ([bitsO none].map fl)]) ⟨.inl rfl, .inl rfl, True.intro⟩ (show 1 ≤ 2 by decide) (below2 _ _) (.inl ⟨rfl, rfl⟩)
  · rw [o]
    repeat first | refine same ?_ | refine Ob.intro hi0 ?_ | refine Ob.intro hi1 ?_ | refine optK_intro (hx _) ?_ | refine optK_intro (hy _) ?_
    refine callP (rOne_ok r (fari_lt o)) rfl rfl ?_
    repeat first | refine same ?_ | refine Ob.intro hi0 ?_ | refine Ob.intro hi1 ?_ | refine optK_intro (hx _) ?_ | refine optK_intro (hy _) ?_
    refine endG rfl rfl rfl (G := [.row (l.map fl), .row ([bitsO (some r)].map fl)]) ⟨.inl rfl, .inl rfl, True.intro⟩ (show 1 ≤ 2 by decide) (below2 _ _) (.inl ⟨rfl, rfl⟩)
theorem rStep5 (own x off k : Nat) (l : List Nat) (hc : ∀ b ∈ l, cW b) (hk : k = 2) (hl : off + 2 ≤ l.length) : ACalls Try.prog 27 [i64 5, fl own, fl x, .slc 0 off k 1] [.row (l.map fl)] (RStepR (outS 5 own x ((l.drop off).take 2)) l) := by
  subst hk
  obtain ⟨a, b, ha, hb, hca, hcb, hq⟩ : ∃ a b, l[off]? = some a ∧ l[off + 1]? = some b ∧ cW a ∧ cW b ∧ (l.drop off).take 2 = [a, b] := by
    have h := List.getElem?_eq_getElem (l := l) (i := off) (by omega)
    have h' := List.getElem?_eq_getElem (l := l) (i := off + 1) (by omega)
    refine ⟨l[off], l[off + 1], h, h', hc _ (List.getElem_mem _), hc _ (List.getElem_mem _), ?_⟩
    rw [List.drop_eq_getElem_cons (by omega), List.drop_eq_getElem_cons (by omega)]
    rfl
  rw [hq]
  have hi0 : (0 : Int) ≤ 0 ∧ 0 < ((2 : Nat) : Int) := by decide
  have hi1 : (0 : Int) ≤ 1 ∧ 1 < ((2 : Nat) : Int) := by decide
  have hx : ∀ G : Heap, rd1 (.row (l.map fl) :: G) 0 (off + (0 : Int).toNat * 1) = some (fl a) := fun G => rd1_at rfl ha rfl
  have hy : ∀ G : Heap, rd1 (.row (l.map fl) :: G) 0 (off + (1 : Int).toNat * 1) = some (fl b) := fun G => rd1_at rfl hb rfl
  have e : outS 5 own x [a, b] = some [bitsO (fari .mul .f64 a b)] := rfl
  rw [e]
  refine acalls_of_awp hT mixed Try.func27 rfl (by kernel_rfl) (by kernel_rfl) (Nat.le_of_ble_eq_true rfl) ?_
  refine ⟨[0, 0, 0, 0, 0, 0, 0, 1, 1, 1, 1], [[], [0], [0, 1], [], [3], [3, 4], [0, 1, 2, 3, 4, 5], [0, 1, 2, 3, 4, 5, 6], [0, 1, 2, 3, 4, 5, 6, 7], [0, 1, 2, 3, 4, 5, 6, 7, 8], [0, 1, 2, 3, 4, 5, 6, 7, 8, 9]], [0, 0, 0, 0, 0, 0, 0, 0, 0, 1, 1], [7], [[3], [45], [46], [3], [48], [49], [47, 50], [51], [52], [53], []], Ob.intro (by kernel_rfl) ?_⟩
  repeat first | refine same ?_ | refine Ob.intro hi0 ?_ | refine Ob.intro hi1 ?_ | refine optK_intro (hx _) ?_ | refine optK_intro (hy _) ?_
  refine forO (fun o => ?_) (fun r o => ?_)
  · rw [o]
    repeat first | refine same ?_ | refine Ob.intro hi0 ?_ | refine Ob.intro hi1 ?_ | refine optK_intro (hx _) ?_ | refine optK_intro (hy _) ?_
    refine callP rOne_nan rfl rfl ?_
    repeat first | refine same ?_ | refine Ob.intro hi0 ?_ | refine Ob.intro hi1 ?_ | refine optK_intro (hx _) ?_ | refine optK_intro (hy _) ?_
    refine endG rfl rfl rfl (G := [.row (l.map fl), .row ([bitsO none].map fl)]) ⟨.inl rfl, .inl rfl, True.intro⟩ (show 1 ≤ 2 by decide) (below2 _ _) (.inl ⟨rfl, rfl⟩)
  · rw [o]
    repeat first | refine same ?_ | refine Ob.intro hi0 ?_ | refine Ob.intro hi1 ?_ | refine optK_intro (hx _) ?_ | refine optK_intro (hy _) ?_
    refine callP (rOne_ok r (fari_lt o)) rfl rfl ?_
    repeat first | refine same ?_ | refine Ob.intro hi0 ?_ | refine Ob.intro hi1 ?_ | refine optK_intro (hx _) ?_ | refine optK_intro (hy _) ?_
    refine endG rfl rfl rfl (G := [.row (l.map fl), .row ([bitsO (some r)].map fl)]) ⟨.inl rfl, .inl rfl, True.intro⟩ (show 1 ≤ 2 by decide) (below2 _ _) (.inl ⟨rfl, rfl⟩)
theorem rStep6 (own x off k : Nat) (l : List Nat) (hc : ∀ b ∈ l, cW b) (hk : k = 2) (hl : off + 2 ≤ l.length) : ACalls Try.prog 27 [i64 6, fl own, fl x, .slc 0 off k 1] [.row (l.map fl)] (RStepR (outS 6 own x ((l.drop off).take 2)) l) := by
  subst hk
  obtain ⟨a, b, ha, hb, hca, hcb, hq⟩ : ∃ a b, l[off]? = some a ∧ l[off + 1]? = some b ∧ cW a ∧ cW b ∧ (l.drop off).take 2 = [a, b] := by
    have h := List.getElem?_eq_getElem (l := l) (i := off) (by omega)
    have h' := List.getElem?_eq_getElem (l := l) (i := off + 1) (by omega)
    refine ⟨l[off], l[off + 1], h, h', hc _ (List.getElem_mem _), hc _ (List.getElem_mem _), ?_⟩
    rw [List.drop_eq_getElem_cons (by omega), List.drop_eq_getElem_cons (by omega)]
    rfl
  rw [hq]
  have hi0 : (0 : Int) ≤ 0 ∧ 0 < ((2 : Nat) : Int) := by decide
  have hi1 : (0 : Int) ≤ 1 ∧ 1 < ((2 : Nat) : Int) := by decide
  have hx : ∀ G : Heap, rd1 (.row (l.map fl) :: G) 0 (off + (0 : Int).toNat * 1) = some (fl a) := fun G => rd1_at rfl ha rfl
  have hy : ∀ G : Heap, rd1 (.row (l.map fl) :: G) 0 (off + (1 : Int).toNat * 1) = some (fl b) := fun G => rd1_at rfl hb rfl
  have e : outS 6 own x [a, b] = some [bitsO (fari .quo .f64 a b)] := rfl
  rw [e]
  refine acalls_of_awp hT mixed Try.func27 rfl (by kernel_rfl) (by kernel_rfl) (Nat.le_of_ble_eq_true rfl) ?_
  refine ⟨[0, 0, 0, 0, 0, 0, 0, 1, 1, 1, 1], [[], [0], [0, 1], [], [3], [3, 4], [0, 1, 2, 3, 4, 5], [0, 1, 2, 3, 4, 5, 6], [0, 1, 2, 3, 4, 5, 6, 7], [0, 1, 2, 3, 4, 5, 6, 7, 8], [0, 1, 2, 3, 4, 5, 6, 7, 8, 9]], [0, 0, 0, 0, 0, 0, 0, 0, 0, 1, 1], [7], [[3], [56], [57], [3], [59], [60], [58, 61], [62], [63], [64], []], Ob.intro (by kernel_rfl) ?_⟩
  repeat first | refine same ?_ | refine Ob.intro hi0 ?_ | refine Ob.intro hi1 ?_ | refine optK_intro (hx _) ?_ | refine optK_intro (hy _) ?_
  refine forO (fun o => ?_) (fun r o => ?_)
  · rw [o]
    repeat first | refine same ?_ | refine Ob.intro hi0 ?_ | refine Ob.intro hi1 ?_ | refine optK_intro (hx _) ?_ | refine optK_intro (hy _) ?_
    refine callP rOne_nan rfl rfl ?_
    repeat first | refine same ?_ | refine Ob.intro hi0 ?_ | refine Ob.intro hi1 ?_ | refine optK_intro (hx _) ?_ | refine optK_intro (hy _) ?_
    refine endG rfl rfl rfl (G := [.row (l.map fl), .row ([bitsO none].map fl)]) ⟨.inl rfl, .inl rfl, True.intro⟩ (show 1 ≤ 2 by decide) (below2 _ _) (.inl ⟨rfl, rfl⟩)
  · rw [o]
    repeat first | refine same ?_ | refine Ob.intro hi0 ?_ | refine Ob.intro hi1 ?_ | refine optK_intro (hx _) ?_ | refine optK_intro (hy _) ?_
    refine callP (rOne_ok r (fari_lt o)) rfl rfl ?_
    repeat first | refine same ?_ | refine Ob.intro hi0 ?_ | refine Ob.intro hi1 ?_ | refine optK_intro (hx _) ?_ | refine optK_intro (hy _) ?_
    refine endG rfl rfl rfl (G := [.row (l.map fl), .row ([bitsO (some r)].map fl)]) ⟨.inl rfl, .inl rfl, True.intro⟩ (show 1 ≤ 2 by decide) (below2 _ _) (.inl ⟨rfl, rfl⟩)
theorem rStep1 (own x off k : Nat) (l : List Nat) (hc : ∀ b ∈ l, cW b) (hk : k = 0) (hl : off + 0 ≤ l.length) (hx : x < 18446744073709551616) : ACalls Try.prog 27 [i64 1, fl own, fl x, .slc 0 off k 1] [.row (l.map fl)] (RStepR (outS 1 own x ((l.drop off).take 0)) l) := by
  have h := rOne_ok x hx
  have e : outS 1 own x ((l.drop off).take 0) = some [bitsO (some x)] := rfl
  rw [e]
  generalize bitsO (some x) = z at *
  refine acalls_of_awp hT mixed Try.func27 rfl (by kernel_rfl) (by kernel_rfl) (Nat.le_of_ble_eq_true rfl) ?_
  refine callP h rfl rfl ?_
  refine endG rfl rfl rfl (G := [.row (l.map fl), .row ([z].map fl)]) ⟨.inl rfl, .inl rfl, True.intro⟩ (show 1 ≤ 2 by decide) (below2 _ _) (.inl ⟨rfl, rfl⟩)
theorem rStep2 (own x off k : Nat) (l : List Nat) (hc : ∀ b ∈ l, cW b) (hk : k = 0) (hl : off + 0 ≤ l.length) (ho : bitsB own = own) : ACalls Try.prog 27 [i64 2, fl own, fl x, .slc 0 off k 1] [.row (l.map fl)] (RStepR (outS 2 own x ((l.drop off).take 0)) l) := by
  have e : outS 2 own x ((l.drop off).take 0) = some [own] := by show some [bitsB (bitsB own)] = _; rw [ho, ho]
  rw [e]
  refine acalls_of_awp hT mixed Try.func27 rfl (by kernel_rfl) (by kernel_rfl) (Nat.le_of_ble_eq_true rfl) ?_
  refine endG rfl rfl rfl (G := [.row (l.map fl), .row ([own].map fl)]) ⟨.inl rfl, .inl rfl, True.intro⟩ (show 1 ≤ 2 by decide) (below2 _ _) (.inl ⟨rfl, rfl⟩)
end Go.Proofs.Ytdjpcmlnhkiokaa.A
