/- The law CapsNil, by the functions that it calls. No condition. -/
import Derived.Test.YtkbpddejafdmdaaGreatCf
import Derived.Test.YtkbpddejafdmdaaGreatAm19
namespace Go.Proofs.YtkbpddejafdmdaaGreat.A
open Go
set_option linter.unusedVariables false
set_option maxRecDepth 100000
set_option pp.maxSteps 1500

def g1 : Rg := [(1, 1), (0, 0)]
def g2 : Rg := [(1, 1), (1, 0)]
end Go.Proofs.YtkbpddejafdmdaaGreat.A

namespace Go.Proofs.YtkbpddejafdmdaaGreat.A
open Go
set_option linter.unusedVariables false
set_option maxRecDepth 100000
set_option pp.maxSteps 1500

end Go.Proofs.YtkbpddejafdmdaaGreat.A

namespace Go.Proofs.YtkbpddejafdmdaaGreat.A
open Go
set_option linter.unusedVariables false
set_option maxRecDepth 100000
set_option pp.maxSteps 1500

end Go.Proofs.YtkbpddejafdmdaaGreat.A

namespace Go.Proofs.YtkbpddejafdmdaaGreat.A
open Go
set_option linter.unusedVariables false
set_option maxRecDepth 100000
set_option pp.maxSteps 1500

theorem tags_ok (tags : Nat) (g : Rg) : ACalls Tryz.prog 38 [.ptr 1 0] (tabH tags g) (RetH (i64 tags) (tabH tags g)) := by
  refine acalls_of_awp hT mixed Tryz.func38 rfl (by kernel_rfl) (by kernel_rfl) (Nat.le_of_ble_eq_true rfl) ?_
  refine endH rfl rfl rfl ⟨.inl rfl, .inl rfl, True.intro⟩ (Nat.le_refl 2) (belowH_tab tags g) rfl
def plusL (g : Rg) : List Nat := g.map (·.1)
def minusL (g : Rg) : List Nat := g.map (·.2)
theorem rg_rdN {g : Rg} {k : Nat} {r : Nat × Nat} {G : Heap} (h : g[k]? = some r) : rdN (.row (rgC g) :: G) 0 (0 + (k : Int).toNat * 2) 2 = some [u64 r.1, u64 r.2] := by
  have hl := rgC_len g
  have hk := (List.getElem?_eq_some_iff.1 h).1
  rw [rdN_eq (cs := rgC g) rfl (by rw [hl, Int.toNat_natCast]; omega), Int.toNat_natCast, Nat.zero_add]
  obtain ⟨h1, h2⟩ := rgC_get g k r h
  congr 1
  apply List.ext_getElem?
  intro i
  rw [List.getElem?_take]
  match i with
  | 0 => simp [List.getElem?_drop, h1]
  | 1 => simp [List.getElem?_drop, h2]
  | i + 2 => rw [if_neg (by omega)]; rfl
theorem take_snocP {l : Rg} {i : Nat} {x : Nat × Nat} (h : l[i]? = some x) : l.take (i + 1) = l.take i ++ [x] := by
  obtain ⟨hi, rfl⟩ := List.getElem?_eq_some_iff.1 h
  exact List.take_succ_eq_append_getElem hi
def MaskSt (g : Rg) : Type := { x : Nat × List Nat × List Nat // x.1 ≤ g.length ∧ x.2.1 = plusL (g.take x.1) ∧ x.2.2 = minusL (g.take x.1) }
theorem masks_ok (tags : Nat) (g : Rg) (hg : 1 ≤ g.length) (hg8 : g.length ≤ 8) : ACalls Tryz.prog 39 [.ptr 1 0] (tabH tags g) (RetH (.tup [us (plusL g), us (minusL g)]) (tabH tags g)) := by
  have hrn : ∀ (f : Nat → Nat), renO f (.row (rgC g)) = .row (rgC g) := fun f => renO_rg f g
  refine acalls_of_awp hT mixed Tryz.func39 rfl (by kernel_rfl) (by kernel_rfl) (Nat.le_of_ble_eq_true rfl) ?_
  refine loopI (α := MaskSt g) (fun x => [(4, match x.val.1 with | 0 => AV.sc (.slice none 0 0) | k + 1 => .slc 2 0 (k + 1) 1), (5, match x.val.1 with | 0 => AV.sc (.slice none 0 0) | k + 1 => .slc 3 0 (k + 1) 1), (13, .slc 0 0 g.length 2), (14, i64 g.length), (15, i64 (x.val.1 : Nat))])
    (fun x => match x.val.1 with | 0 => tabH tags g | k + 1 => [.row (rgC g), tabO tags g, .row (x.val.2.1.map u64n), .row (x.val.2.2.map u64n)]) (fun x => g.length - x.val.1)
    ⟨(0, [], []), Nat.zero_le _, rfl, rfl⟩ [0, 1] ⟨⟨rfl, rfl, rfl, rfl, rfl, True.intro⟩, ⟨.inl (by rw [hrn]; rfl), .inl rfl, True.intro⟩, rfl, rfl, rfl⟩ ?_
  intro x K hK
  obtain ⟨⟨k, p, m⟩, hst⟩ := x
  replace hst : k ≤ g.length ∧ p = plusL (g.take k) ∧ m = minusL (g.take k) := hst
  have hinc : wrp .i64 ((k : Int) + 1) = ((k + 1 : Nat) : Int) := by rw [wrpE, wi64]; omega
  have hpl : p.length = k := by rw [hst.2.1, plusL, List.length_map, List.length_take]; omega
  have hml : m.length = k := by rw [hst.2.2, minusL, List.length_map, List.length_take]; omega
  have hnext : ∀ r, g[k]? = some r → k + 1 ≤ g.length ∧ p ++ [r.1] = plusL (g.take (k + 1)) ∧ m ++ [r.2] = minusL (g.take (k + 1)) := fun r hr => by
    rw [take_snocP hr, plusL, minusL, List.map_append, List.map_append, hst.2.1, hst.2.2]
    exact ⟨(List.getElem?_eq_some_iff.1 hr).1, rfl, rfl⟩
  cases k with
  | zero =>
    obtain rfl : p = [] := List.eq_nil_of_length_eq_zero hpl
    obtain rfl : m = [] := List.eq_nil_of_length_eq_zero hml
    refine forkD (fun h => ?_) (fun h => ?_)
    · obtain ⟨r, hr⟩ : ∃ r, g[0]? = some r := ⟨_, List.getElem?_eq_getElem (by omega)⟩
      refine Ob.intro (show (0 : Int) ≤ ((0 : Nat) : Int) ∧ (((0 : Nat) : Int)) < (g.length : Nat) by omega) ?_
      refine optK_intro (rg_rdN hr) ?_
      refine Ob.intro rfl ?_
      refine Ob.intro (show 1 * 8 ≤ 140737488355328 ∧ 1 ≤ 9223372036854775807 by decide) ?_
      refine Ob.intro rfl ?_
      refine Ob.intro (show 1 * 8 ≤ 140737488355328 ∧ 1 ≤ 9223372036854775807 by decide) ?_
      refine hK ⟨(1, [] ++ [r.1], [] ++ [r.2]), hnext r hr⟩ [0, 1, 4, 6] _ (show g.length - 0 = g.length - 1 + 1 by omega) ⟨⟨rfl, rfl, rfl, rfl, congrArg i64 hinc, True.intro⟩, ⟨.inl (by rw [hrn]; rfl), .inl rfl, .inl rfl, .inl rfl, True.intro⟩, rfl, rfl, rfl⟩
    · exfalso
      have h : ¬ ((0 : Nat) : Int) < (g.length : Int) := h
      omega
  | succ k =>
    refine forkD (fun h => ?_) (fun h => ?_)
    · have h1 : k + 1 < g.length := by have : ((k + 1 : Nat) : Int) < (g.length : Int) := h; omega
      obtain ⟨r, hr⟩ : ∃ r, g[k + 1]? = some r := ⟨_, List.getElem?_eq_getElem h1⟩
      refine Ob.intro (show (0 : Int) ≤ ((k + 1 : Nat) : Int) ∧ ((k + 1 : Nat) : Int) < (g.length : Nat) by omega) ?_
      refine optK_intro (rg_rdN hr) ?_
      refine Ob.intro rfl ?_
      refine optK_intro (rdN_all (cs := p.map u64n) rfl (show (k + 1) * 1 = (p.map u64n).length by rw [List.length_map]; omega)) ?_
      refine Ob.intro (show (k + 1 + 1) * 8 ≤ 140737488355328 ∧ k + 1 + 1 ≤ 9223372036854775807 by omega) ?_
      refine Ob.intro rfl ?_
      refine optK_intro (rdN_all (cs := m.map u64n) rfl (show (k + 1) * 1 = (m.map u64n).length by rw [List.length_map]; omega)) ?_
      refine Ob.intro (show (k + 1 + 1) * 8 ≤ 140737488355328 ∧ k + 1 + 1 ≤ 9223372036854775807 by omega) ?_
      refine hK ⟨(k + 1 + 1, p ++ [r.1], m ++ [r.2]), hnext r hr⟩ [0, 1, 6, 8] _ (show g.length - (k + 1) = g.length - (k + 1 + 1) + 1 by omega) ⟨⟨rfl, rfl, rfl, rfl, congrArg i64 hinc, True.intro⟩, ⟨.inl (by rw [hrn]; rfl), .inl rfl, .inl (by rw [renO_us, List.map_append]; rfl), .inl (by rw [renO_us, List.map_append]; rfl), True.intro⟩, rfl, rfl, rfl⟩
    · have h' : k + 1 = g.length := by have : ¬ ((k + 1 : Nat) : Int) < (g.length : Int) := h; have := hst.1; omega
      obtain ⟨_, h2, h3⟩ := hst
      rw [h', List.take_length] at h2 h3
      have a1 := frz_us2 (H := [.row (rgC g), tabO tags g, .row (p.map u64n), .row (m.map u64n)]) (i := 2) (n := k + 1) (l := p) rfl hpl.symm rfl 5
      have a2 := frz_us2 (H := [.row (rgC g), tabO tags g, .row (p.map u64n), .row (m.map u64n)]) (i := 3) (n := k + 1) (l := m) rfl hml.symm rfl 5
      have a3 : frz [.row (rgC g), tabO tags g, .row (p.map u64n), .row (m.map u64n)] (tabH tags g).length 8 (mkR [.slc 2 0 (k + 1) 1, .slc 3 0 (k + 1) 1]) = some (.tup [us p, us m]) := by
        show (match mapO (frz [.row (rgC g), tabO tags g, .row (p.map u64n), .row (m.map u64n)] 2 7) [.slc 2 0 (k + 1) 1, .slc 3 0 (k + 1) 1] with | some ds => some (AV.tup ds) | none => none) = _
        simp only [mapO, a1, a2]
      rw [← h2, ← h3]
      refine endH rfl rfl a3 ⟨.inl rfl, .inl rfl, True.intro⟩ (Nat.le_refl 2) (belowH_tab tags g) rfl
end Go.Proofs.YtkbpddejafdmdaaGreat.A

namespace Go.Proofs.YtkbpddejafdmdaaGreat.A
open Go
set_option linter.unusedVariables false
set_option maxRecDepth 100000
set_option pp.maxSteps 1500

end Go.Proofs.YtkbpddejafdmdaaGreat.A

namespace Go.Proofs.YtkbpddejafdmdaaGreat.A
open Go
set_option linter.unusedVariables false
set_option maxRecDepth 100000
set_option pp.maxSteps 1500

end Go.Proofs.YtkbpddejafdmdaaGreat.A
