/- The functions of num: keys. No condition. -/
import Derived.Test.YthebddjpnkimjaaNb
namespace Go.Proofs.Ythebddjpnkimjaa.A
open Go
set_option linter.unusedVariables false
set_option maxRecDepth 100000

def u8 (n : Int) : AV := .sc (.int .u8 n)
def kc (p i : Nat) : List AV := [u8 (if 0 < i then p / 72057594037927936 % 256 else 0), u8 (if 1 < i then p / 281474976710656 % 256 else 0), u8 (if 2 < i then p / 1099511627776 % 256 else 0), u8 (if 3 < i then p / 4294967296 % 256 else 0),
  u8 (if 4 < i then p / 16777216 % 256 else 0), u8 (if 5 < i then p / 65536 % 256 else 0), u8 (if 6 < i then p / 256 % 256 else 0), u8 (if 7 < i then p % 256 else 0)]
set_option pp.maxSteps 1500
theorem kc_set (p i : Nat) (hi : i < 8) : setAll (kc p i) (0 + ((i : Int).toNat * 1)) [u8 (wrp .u8 (hd ((p : Int).fdiv (2 ^ min (wrp .i64 (8 * wrp .i64 (7 - (i : Int)))).toNat IntKind.u64.bits))))] = kc p (i + 1) := by
  have e : IntKind.u64.bits = 64 := rfl
  match i, hi with
  | 0, _ => simp [wrpE, hd_eq, wi64, wu8, e, kc, setAll, Int.fdiv_eq_ediv]
  | 1, _ => simp [wrpE, hd_eq, wi64, wu8, e, kc, setAll, Int.fdiv_eq_ediv]
  | 2, _ => simp [wrpE, hd_eq, wi64, wu8, e, kc, setAll, Int.fdiv_eq_ediv]
  | 3, _ => simp [wrpE, hd_eq, wi64, wu8, e, kc, setAll, Int.fdiv_eq_ediv]
  | 4, _ => simp [wrpE, hd_eq, wi64, wu8, e, kc, setAll, Int.fdiv_eq_ediv]
  | 5, _ => simp [wrpE, hd_eq, wi64, wu8, e, kc, setAll, Int.fdiv_eq_ediv]
  | 6, _ => simp [wrpE, hd_eq, wi64, wu8, e, kc, setAll, Int.fdiv_eq_ediv]
  | 7, _ => simp [wrpE, hd_eq, wi64, wu8, e, kc, setAll, Int.fdiv_eq_ediv]
def keyL (p : Nat) : List UInt8 := [UInt8.ofNat (p / 72057594037927936 % 256), UInt8.ofNat (p / 281474976710656 % 256), UInt8.ofNat (p / 1099511627776 % 256), UInt8.ofNat (p / 4294967296 % 256), UInt8.ofNat (p / 16777216 % 256), UInt8.ofNat (p / 65536 % 256), UInt8.ofNat (p / 256 % 256), UInt8.ofNat (p % 256)]
theorem kc_text (p : Nat) : textA (kc p 8) = some (keyL p) := by
  have h : ∀ c : Nat, ((p : Int) / (c : Int) % 256).toNat = p / c % 256 := fun c => by
    have : ((p : Int) / (c : Int) % 256) = ((p / c % 256 : Nat) : Int) := by simp
    rw [this]
    rfl
  have h1 := h 72057594037927936
  have h2 := h 281474976710656
  have h3 := h 1099511627776
  have h4 := h 4294967296
  have h5 := h 16777216
  have h6 := h 65536
  have h7 := h 256
  have h8 : ((p : Int) % 256).toNat = p % 256 := by omega
  simp only [kc, u8, textA, keyL, Option.map_some, Nat.reduceLT, if_true]
  have c1 : ((72057594037927936 : Nat) : Int) = 72057594037927936 := rfl
  have c2 : ((281474976710656 : Nat) : Int) = 281474976710656 := rfl
  have c3 : ((1099511627776 : Nat) : Int) = 1099511627776 := rfl
  have c4 : ((4294967296 : Nat) : Int) = 4294967296 := rfl
  have c5 : ((16777216 : Nat) : Int) = 16777216 := rfl
  have c6 : ((65536 : Nat) : Int) = 65536 := rfl
  have c7 : ((256 : Nat) : Int) = 256 := rfl
  rw [c1] at h1; rw [c2] at h2; rw [c3] at h3; rw [c4] at h4; rw [c5] at h5; rw [c6] at h6; rw [c7] at h7
  rw [h1, h2, h3, h4, h5, h6, h7, h8]
theorem key_ok (b : Nat) (hb : b < 18446744073709551616) : ACalls Try.prog 40 [fl b] [] (Ret (.sc (.string ⟨(keyL (placeB b)).toArray⟩))) := by
  have hp := placeB_lt hb
  refine acalls_of_awp hT mixed Try.func40 rfl (by kernel_rfl) (by kernel_rfl) (Nat.le_of_ble_eq_true rfl) ?_
  refine callP (place_ok b hb) rfl rfl ?_
  refine loopI (fun i : Fin 9 => [(3, .ptr 0 0), (4, u64 (placeB b)), (8, i64 (i.val : Int))]) (fun i => [.row (kc (placeB b) i.val)]) (fun i => 8 - i.val) 0 [0] ⟨⟨rfl, rfl, rfl, True.intro⟩, ⟨.inl rfl, True.intro⟩, rfl, rfl, rfl⟩ ?_
  intro i K hK
  obtain ⟨i, hi⟩ := i
  refine forkD (fun h => ?_) (fun h => ?_)
  · have h' : i < 8 := by have : (i : Int) < 8 := h; omega
    refine Ob.intro (by simp only [wrpE, wi64]; omega) ?_
    refine Ob.intro (by simp only []; omega) ?_
    refine optK_intro (wr_eq rfl (show 0 + (i : Int).toNat * 1 + 1 ≤ 8 by omega)) ?_
    refine hK ⟨i + 1, by omega⟩ [0] _ ?_ ?_
    · show 8 - i = 8 - (i + 1) + 1
      omega
    · refine ⟨⟨rfl, rfl, congrArg i64 (?_ : wrp .i64 ((i : Int) + 1) = ((i + 1 : Nat) : Int)), True.intro⟩, ⟨.inl (congrArg (fun c => some (AObj.row c)) (kc_set (placeB b) i h')), True.intro⟩, rfl, rfl, rfl⟩
      rw [wrpE, wi64]
      omega
  · have h' : i = 8 := by have : ¬ (i : Int) < 8 := h; omega
    subst h'
    refine Ob.intro (by decide) ?_
    refine end0 rfl rfl rfl (congrArg (fun l : List UInt8 => AV.sc (.string ⟨l.toArray⟩)) (Option.some.inj (show some _ = some (keyL (placeB b)) from kc_text (placeB b))))
end Go.Proofs.Ythebddjpnkimjaa.A
