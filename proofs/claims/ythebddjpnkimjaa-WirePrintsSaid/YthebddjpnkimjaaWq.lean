/- law03: awake. No condition. -/
import Derived.Test.YthebddjpnkimjaaWp
namespace Go.Proofs.Ythebddjpnkimjaa.A
open Go
set_option linter.unusedVariables false
set_option linter.unusedSimpArgs false
set_option maxRecDepth 100000
set_option pp.maxSteps 300

/-- Cells that tell no more. -/
def LeL : List AV → List AV → Prop
  | [], [] => True
  | c :: cs, d :: ds => (∀ X v, VR X c v → VR X d v) ∧ LeL cs ds
  | _, _ => False
theorem VC_le {X : Ctx} {a : Option Addr} : ∀ {cs ds : List AV} {k : Nat}, LeL cs ds → VC X a k cs → VC X a k ds
  | [], [], k, _, h => h
  | c :: cs, d :: ds, k, hl, h => by
    simp only [VC] at h ⊢
    obtain ⟨⟨ad, v', h1, h2, h3, h4, h5⟩, h6⟩ := h
    exact ⟨⟨ad, v', h1, h2, h3, h4, hl.1 _ _ h5⟩, VC_le hl.2 h6⟩
  | [], d :: ds, k, hl, h => hl.elim
  | c :: cs, [], k, hl, h => hl.elim
theorem VR_viewLe {X : Ctx} {n : Nat} {cs ds : List AV} (hl : LeL cs ds) {v : Value} (h : VR X (.view n cs) v) : VR X (.view n ds) v := by
  simp only [VR] at h ⊢
  obtain ⟨ad, cap, h1, h2, h3, h4⟩ := h
  exact ⟨ad, cap, h1, h2, h3, VC_le hl h4⟩
def awR : List AV := [u64 7, str ⟨#[]⟩, nilS, nilS, u64 300, str ⟨#[]⟩, nilS, nilS]
def awL : List It := [.mk 7 ⟨#[]⟩ [] [], .mk 300 ⟨#[]⟩ [] []]
theorem aw_le : LeL awR (flat itC awL) :=
  ⟨fun _ _ h => h, fun _ _ h => h, fun _ _ h => VR_nilView h, fun _ _ h => VR_nilView h, fun _ _ h => h, fun _ _ h => h, fun _ _ h => VR_nilView h, fun _ _ h => VR_nilView h, True.intro⟩
theorem aw_print : printS (byL ⟨#[98, 110]⟩) awL = some [7, 172, 2] := by
  have h1 : byL ⟨#[98, 110]⟩ = [98, 110] := rfl
  have h2 : shP [98, 110] = some [(98, false), (110, false)] := by decide
  have h3 : numN 300 = [172, 2] := by rw [numN_ge (by decide), numN_lt (by decide)]
  have h4 : oneP 98 (.mk 7 ⟨#[]⟩ [] []) = some [7] := by decide +kernel
  have h5 : oneP 110 (.mk 300 ⟨#[]⟩ [] []) = some (numN 300) := by
    have he : emB 300 ⟨#[]⟩ [] true false false = true := by decide +kernel
    rw [oneP_mk, he]
    simp
  rw [h1]
  unfold printS
  rw [h2]
  show cat2 (oneP 98 (.mk 7 ⟨#[]⟩ [] [])) (cat2 (oneP 110 (.mk 300 ⟨#[]⟩ [] [])) (some [])) = _
  rw [h4, h5, h3]
  rfl
theorem awakeW_raw (cp : ACalls Try.prog 10 [str ⟨#[98, 110]⟩, .view 2 awR] [] (Ret (.tup [str ⟨#[7, 172, 2]⟩, i64 0]))) : ACalls Try.prog 7 [] [] (Ret (bo true)) := by
  refine acalls_of_awp hT mixed Try.func7 rfl (by kernel_rfl) (by kernel_rfl) (Nat.le_of_ble_eq_true rfl) ?_
  refine callCut (H := [.row awR]) (bs := [str ⟨#[98, 110]⟩, .view 2 awR]) 0 rfl ?_
  refine callS cp [] True.intro rfl ?_
  rintro E G ⟨rfl, rfl⟩ _
  refine ⟨_, _, rfl, rfl, ?_⟩
  refine fork (fun h => ?_) (fun h => absurd (show strEq ⟨#[7, 172, 2]⟩ ⟨#[7, 172, 2]⟩ = false from h) (by rw [strEq_iff.2 rfl]; decide))
  exact ⟨rfl, [], bo true, ⟨⟨_, rfl, rfl⟩, True.intro, Nat.le_refl _, rfl⟩, rfl, rfl⟩
theorem awakeW_ok : ACalls Try.prog 7 [] [] (Ret (bo true)) := by
  refine awakeW_raw ?_
  have hp := print_ok ⟨#[98, 110]⟩ awL (by decide) (by decide) (fun x hx => by
    simp only [awL, List.mem_cons, List.not_mem_nil, or_false] at hx
    rcases hx with rfl | rfl <;> exact .mk _ _ _ _ (by decide) (by decide) (by simp) (by decide) (by decide) (by simp))
  rw [aw_print] at hp
  refine ACalls.weaken hp fun X vs hv => ?_
  match vs, hv with
  | [a, b], hv =>
    simp only [VL, and_true] at hv ⊢
    exact ⟨hv.1, VR_viewLe aw_le hv.2⟩
end Go.Proofs.Ythebddjpnkimjaa.A
