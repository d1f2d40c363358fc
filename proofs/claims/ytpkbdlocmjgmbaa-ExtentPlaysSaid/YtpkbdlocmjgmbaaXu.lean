/- extent: acts; the law ExtentNil. No condition. -/
import Derived.Test.YtpkbdlocmjgmbaaXt
namespace Go.Proofs.Ytpkbdlocmjgmbaa.A
open Go
set_option linter.unusedVariables false
set_option linter.unusedSimpArgs false
set_option maxRecDepth 100000
set_option pp.maxSteps 600
/-- An act. -/
structure Xa where
  k : Int
  e : Int
  a : Int
  s : ByteArray
  ps : List (Int × Int)
def pkV (ps : List (Int × Int)) : AV := .view ps.length (flat pkC ps)
def xaC (x : Xa) : List AV := [i64 x.k, i64 x.e, i64 x.a, str x.s, pkV x.ps]
theorem wf_flatX {α : Type} {f : α → List AV} {Q : α → Prop} {e : Sh} (he : ∀ r, Wf e r → ∃ x, r = f x ∧ Q x) {l : List AV} (h : Wf (.slice e) l) : ∃ L : List α, l = [.view L.length (flat f L)] ∧ (∀ x ∈ L, Q x) ∧ L.length ≤ 9223372036854775807 := by
  obtain ⟨rows, rfl, hl, hr⟩ := h
  have : ∃ L : List α, rows = L.map f ∧ ∀ x ∈ L, Q x := by
    clear hl
    induction rows with
    | nil => exact ⟨[], rfl, by simp⟩
    | cons r rs ih =>
      obtain ⟨x, rfl, hx⟩ := he r (hr r (List.mem_cons_self ..))
      obtain ⟨L, rfl, hL⟩ := ih fun r h => hr r (List.mem_cons_of_mem _ h)
      exact ⟨x :: L, rfl, fun y hy => by
        rcases List.mem_cons.1 hy with rfl | hy
        · exact hx
        · exact hL y hy⟩
  obtain ⟨L, rfl, hL⟩ := this
  refine ⟨L, ?_, hL, by simpa using hl⟩
  rw [List.length_map]
  rfl
theorem wf_pick {l : List AV} (h : Wf (.strct (.cons (.int .i64) (.cons (.int .i64) .none))) l) : ∃ p : Int × Int, l = pkC p ∧ True := by
  obtain ⟨_, _, rfl, ⟨a, rfl, _⟩, _, _, rfl, ⟨b, rfl, _⟩, rfl⟩ := h
  exact ⟨(a, b), rfl, trivial⟩
theorem wf_picks {l : List AV} (h : Wf (.slice (.strct (.cons (.int .i64) (.cons (.int .i64) .none)))) l) : ∃ ps : List (Int × Int), l = [pkV ps] ∧ ps.length ≤ 9223372036854775807 := by
  obtain ⟨L, h1, _, h2⟩ := wf_flatX (f := pkC) (fun r hr => wf_pick hr) h
  exact ⟨L, h1, h2⟩
def Xa.ok (x : Xa) : Prop := x.ps.length ≤ 9223372036854775807 ∧ x.s.size ≤ 9223372036854775807
theorem wf_act {l : List AV} (h : Wf (.strct (.cons (.int .i64) (.cons (.int .i64) (.cons (.int .i64) (.cons .str (.cons (.slice (.strct (.cons (.int .i64) (.cons (.int .i64) .none)))) .none)))))) l) : ∃ x : Xa, l = xaC x ∧ x.ok := by
  obtain ⟨_, _, rfl, ⟨k, rfl, _⟩, _, _, rfl, ⟨e, rfl, _⟩, _, _, rfl, ⟨a, rfl, _⟩, _, _, rfl, ⟨s, rfl, hs⟩, _, _, rfl, hp, rfl⟩ := h
  obtain ⟨ps, rfl, hp2⟩ := wf_picks hp
  exact ⟨⟨k, e, a, s, ps⟩, rfl, hp2, hs⟩
theorem wf_acts {l : List AV} (h : Wf (.slice (.strct (.cons (.int .i64) (.cons (.int .i64) (.cons (.int .i64) (.cons .str (.cons (.slice (.strct (.cons (.int .i64) (.cons (.int .i64) .none)))) .none))))))) l) : ∃ L : List Xa, l = [.view L.length (flat xaC L)] ∧ (∀ x ∈ L, x.ok) ∧ L.length ≤ 9223372036854775807 := wf_flatX (fun r hr => wf_act hr) h
end Go.Proofs.Ytpkbdlocmjgmbaa.A
