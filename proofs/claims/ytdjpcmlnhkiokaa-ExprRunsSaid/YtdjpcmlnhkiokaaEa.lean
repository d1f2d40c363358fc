/- expr: the stack; two numbers into one. No condition. -/
import Derived.Test.YtdjpcmlnhkiokaaBa
import Derived.Test.YtdjpcmlnhkiokaaNo
import Derived.Test.YtdjpcmlnhkiokaaGd
import Derived.Test.YtdjpcmlnhkiokaaAmE
namespace Go.Proofs.Ytdjpcmlnhkiokaa.A
open Go
set_option linter.unusedVariables false
set_option maxRecDepth 100000
set_option pp.maxSteps 1500

/-- A stack of n numbers, in a row. -/
def stH (n : Nat) (l : List Nat) : Heap := [.row [.slc 1 0 n 1], .row (l.map fl)]
def stH3 (n : Nat) (l : List Nat) : Heap := [.row [.slc 3 0 n 1], .dead, .dead, .row (l.map fl)]
def oddV : Value := .iface 64 (.agg #[])
theorem rd1_map {α : Type} {g : α → AV} {H : Heap} {p : Nat} {L : List α} {k : Nat} {x : α} (hp : nth H p = some (.row (L.map g))) (h : L[k]? = some x) : rd1 H p (0 + (k : Int).toNat * 1) = some (g x) := by
  unfold rd1
  rw [hp]
  simp only [Int.toNat_natCast, Nat.mul_one, Nat.zero_add, nth_eq, List.getElem?_map, h, Option.map_some]
theorem belowL_fl (m : Nat) : ∀ l : List Nat, belowL m (l.map fl) = true
  | [] => rfl
  | x :: l => belowL_fl m l
theorem belowH_st (n : Nat) (l : List Nat) : belowH 2 (stH n l) = true := by
  simp only [stH, belowH, belowO, belowL_fl]
  rfl
theorem pop_ok (n : Nat) (l : List Nat) (b : Nat) (hb : l[n]? = some b) (hl : n < 4611686018427387904) : ACalls Try.prog 36 [.ptr 0 0] (stH (n + 1) l) (RetH (fl b) (stH n l)) := by
  have hn : n < l.length := (List.getElem?_eq_some_iff.1 hb).1
  refine acalls_of_awp hT mixed Try.func36 rfl (by kernel_rfl) (by kernel_rfl) (Nat.le_of_ble_eq_true rfl) ?_
  refine ⟨[0, 0, 0, 0, 0, 0, 0, 0, 0, 0, 0, 0, 0], [[], [0], [0, 1], [0, 1, 2], [], [4], [4, 5], [4, 5, 6], [4, 5, 6, 7], [4, 5, 6, 7, 8], [0, 1, 2, 3, 4, 5, 6, 7, 8, 9], [0, 1, 2, 3, 4, 5, 6, 7, 8, 9, 10], [0, 1, 2, 3, 4, 5, 6, 7, 8, 9, 10, 11]], [0, 0, 0, 0, 0, 0, 0, 0, 0, 0, 0, 0, 0], [], [[0], [12], [13], [14], [0], [16], [17], [18], [19], [20], [15, 21], [22], [23]], Ob.intro (by kernel_rfl) ?_⟩
  have hw : wrp .i64 (((n + 1 : Nat) : Int) - 1) = (n : Int) := by rw [wrpE, wi64]; omega
  have hi : (0 : Int) ≤ wrp .i64 (((n + 1 : Nat) : Int) - 1) ∧ wrp .i64 (((n + 1 : Nat) : Int) - 1) < ((n + 1 : Nat) : Int) := by rw [hw]; omega
  have hx : ∀ G : Heap, rd1 (.row [.slc 1 0 (n + 1) 1] :: .row (l.map fl) :: G) 1 (0 + (wrp .i64 (((n + 1 : Nat) : Int) - 1)).toNat * 1) = some (fl b) := fun G => by rw [hw]; exact rd1_map rfl hb
  refine Ob.intro hi ?_
  refine optK_intro (hx _) ?_
  repeat first | refine same ?_ | refine Ob.intro hi ?_ | refine optK_intro (hx _) ?_
  have hs : (0 : Int) ≤ 0 ∧ 0 ≤ wrp .i64 (((n + 1 : Nat) : Int) - 1) ∧ wrp .i64 (((n + 1 : Nat) : Int) - 1) ≤ ((n + 1 : Nat) : Int) := by rw [hw]; omega
  refine ⟨[0, 0, 0, 0, 0, 0, 0, 0, 0, 0, 0, 0, 0, 0, 1], [[], [], [1], [1, 2], [1, 2, 3], [], [5], [5, 6], [5, 6, 7], [5, 6, 7, 8], [5, 6, 7, 8, 9], [1, 2, 3, 4, 5, 6, 7, 8, 9, 10], [0, 1, 2, 3, 4, 5, 6, 7, 8, 9, 10, 11], [0, 1, 2, 3, 4, 5, 6, 7, 8, 9, 10, 11, 12], [0, 1, 2, 3, 4, 5, 6, 7, 8, 9, 10, 11, 12, 13]], [0, 0, 0, 0, 0, 0, 0, 0, 0, 0, 0, 0, 0, 0, 0], [14], [[0], [0], [25], [26], [27], [0], [29], [30], [31], [32], [33], [28, 34], [24], [36], [37, 35]], Ob.intro (by kernel_rfl) ?_⟩
  repeat first | refine same ?_ | refine Ob.intro hs ?_ | refine optK_intro (hx _) ?_
  have he : (wrp .i64 (((n + 1 : Nat) : Int) - 1)).toNat - (0 : Int).toNat = n := by rw [hw]; exact Int.toNat_natCast n
  refine endH rfl rfl rfl ⟨.inl (show AObj.row [.slc 1 0 n 1] = .row [.slc 1 0 ((wrp .i64 (((n + 1 : Nat) : Int) - 1)).toNat - (0 : Int).toNat) 1] by rw [he]), .inl rfl, True.intro⟩ (Nat.le_refl 2) (belowH_st n l) rfl
theorem belowH_st3 (n : Nat) (l : List Nat) : belowH 4 (stH3 n l) = true := by
  simp only [stH3, belowH, belowO, belowL_fl]
  rfl
def SurePan (g : FuncId) (args : List AV) (H G : Heap) : Prop := ACalls Try.prog g args H fun E H' => E = .pan oddV ∧ H' = G
theorem pop_odd (l : List Nat) : SurePan 36 [.ptr 0 0] (stH 0 l) (stH 0 l) := by
  show ACalls _ _ _ _ _
  refine acalls_of_awp hT mixed Try.func36 rfl (by kernel_rfl) (by kernel_rfl) (Nat.le_of_ble_eq_true rfl) ?_
  exact ⟨rfl, stH 0 l, ⟨.inl rfl, .inl rfl, True.intro⟩, Nat.le_refl 2, belowH_st 0 l, rfl, rfl⟩
theorem allC_fl : ∀ l : List Nat, allC (l.map fl) = true
  | [] => rfl
  | x :: l => by
    show (bif isC (fl x) then allC (l.map fl) else false) = true
    rw [allC_fl l]
    rfl
theorem push_ok (n : Nat) (l : List Nat) (v : Option Nat) (h8 : n < 8) (hl : n ≤ l.length) : ACalls Try.prog 35 [.ptr 0 0, flo v] (stH n l) (RetH (.tup []) (stH3 (n + 1) (l.take n ++ [bitsO v]))) := by
  have hcap : ((n + 1) * 8 ≤ 140737488355328 ∧ n + 1 ≤ 9223372036854775807) := by omega
  have hr : ∀ G : Heap, rdN (.row [.slc 1 0 n 1] :: .row (l.map fl) :: G) 1 0 (n * 1) = some ((l.take n).map fl) := fun G => by
    rw [rdN_eq (cs := l.map fl) rfl (by rw [List.length_map]; omega), List.drop_zero, Nat.mul_one, List.map_take]
  have hc : allC ((l.take n).map fl) = true := allC_fl _
  cases v with
  | none =>
    refine acalls_of_awp hT mixed Try.func35 rfl (by kernel_rfl) (by kernel_rfl) (Nat.le_of_ble_eq_true rfl) ?_
    refine forkD (fun h => ?_) (fun h => ?_)
    · exfalso
      have : (8 : Int) ≤ (n : Int) := h
      omega
    refine ⟨[0, 0, 0, 0, 0, 0, 1, 2, 2, 3, 3, 3, 4], [[], [], [1], [1, 2], [1, 2, 3], [], [5], [5, 6], [5, 6, 7], [1, 2, 3, 4, 5, 6, 7, 8], [0, 1, 2, 3, 4, 5, 6, 7, 8, 9], [0, 1, 2, 3, 4, 5, 6, 7, 8, 9, 10], [0, 1, 2, 3, 4, 5, 6, 7, 8, 9, 10, 11]], [0, 0, 0, 0, 0, 0, 0, 0, 0, 1, 1, 1, 1], [6, 7, 9, 12], [[0], [0], [13], [14], [15], [1], [17], [18], [19], [16, 20], [12], [22], [23, 21]], Ob.intro (by kernel_rfl) ?_⟩
    repeat first | refine same ?_
    refine callE fbits_nan rfl (fun v hv => by obtain ⟨b, _, rfl⟩ := hv; rfl) ?_
    rintro v ⟨b, hb, rfl⟩
    repeat first | refine same ?_
    refine callP (from_ok b) rfl rfl ?_
    have e : bitsB b = nanW := if_pos hb
    repeat first | refine same ?_ | refine optK_intro (hr _) ?_ | refine Ob.intro (show allC [fl _] = true from rfl) ?_ | refine Ob.intro hcap ?_
    refine endH rfl rfl rfl ⟨.inl rfl, .inl rfl, .inr rfl, .inl (show AObj.row ((l.take n ++ [_]).map fl) = .row ((l.take n).map fl ++ [fl (bitsB b)]) by rw [List.map_append, e]; rfl), True.intro⟩ (show 2 ≤ 4 by decide) (belowH_st3 _ _) rfl
  | some b =>
    refine acalls_of_awp hT mixed Try.func35 rfl (by kernel_rfl) (by kernel_rfl) (Nat.le_of_ble_eq_true rfl) ?_
    refine forkD (fun h => ?_) (fun h => ?_)
    · exfalso
      have : (8 : Int) ≤ (n : Int) := h
      omega
    refine ⟨[0, 0, 0, 0, 0, 0, 1, 2, 2, 3, 3, 3, 4], [[], [], [1], [1, 2], [1, 2, 3], [], [5], [5, 6], [5, 6, 7], [1, 2, 3, 4, 5, 6, 7, 8], [0, 1, 2, 3, 4, 5, 6, 7, 8, 9], [0, 1, 2, 3, 4, 5, 6, 7, 8, 9, 10], [0, 1, 2, 3, 4, 5, 6, 7, 8, 9, 10, 11]], [0, 0, 0, 0, 0, 0, 0, 0, 0, 1, 1, 1, 1], [6, 7, 9, 12], [[0], [0], [13], [14], [15], [1], [17], [18], [19], [16, 20], [12], [22], [23, 21]], Ob.intro (by kernel_rfl) ?_⟩
    repeat first | refine same ?_
    refine callP (float64bits_ok b) rfl rfl ?_
    repeat first | refine same ?_
    refine callP (from_ok b) rfl rfl ?_
    have e : bitsB b = bitsO (some b) := rfl
    repeat first | refine same ?_ | refine optK_intro (hr _) ?_ | refine Ob.intro (show allC [fl _] = true from rfl) ?_ | refine Ob.intro hcap ?_
    refine endH rfl rfl rfl ⟨.inl rfl, .inl rfl, .inr rfl, .inl (show AObj.row ((l.take n ++ [_]).map fl) = .row ((l.take n).map fl ++ [fl (bitsB b)]) by rw [List.map_append, e]; rfl), True.intro⟩ (show 2 ≤ 4 by decide) (belowH_st3 _ _) rfl
theorem push_odd (n : Nat) (l : List Nat) (v : Option Nat) (h8 : 8 ≤ n) : SurePan 35 [.ptr 0 0, flo v] (stH n l) (stH n l) := by
  show ACalls _ _ _ _ _
  refine acalls_of_awp hT mixed Try.func35 rfl (by kernel_rfl) (by kernel_rfl) (Nat.le_of_ble_eq_true rfl) ?_
  refine forkD (fun h => ?_) (fun h => ?_)
  · exact ⟨rfl, stH n l, ⟨.inl rfl, .inl rfl, True.intro⟩, Nat.le_refl 2, belowH_st n l, rfl, rfl⟩
  · exfalso
    have : ¬ (8 : Int) ≤ (n : Int) := h
    omega
end Go.Proofs.Ytdjpcmlnhkiokaa.A
