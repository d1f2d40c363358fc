/- What a law is given, told by shapes: numbers, texts, rows and slices of them. No condition. -/
import Derived.Test.YthbncljlclcecaaDoorAm18
import Derived.ChangeArms
import Derived.ChangeOld
import Derived.OpenShut
import Derived.WideShapes
namespace Go.Proofs.YthbncljlclcecaaDoor.A
open Go
set_option linter.unusedVariables false

/-- A type's shape; 'cons' and 'none' tell the fields of a row. -/
inductive Sh where
  | bool | int (k : IntKind) | str | slice (e : Sh) | strct (s : Sh) | none | cons (a b : Sh)
def Sh.size : Sh → Nat
  | .strct s => s.size
  | .none => 0
  | .cons a b => a.size + b.size
  | _ => 1
mutual
def shOk (P : Program) : Sh → TypeId → Bool
  | .bool, t => match P.underlying t with | some .bool => true | _ => false
  | .int k, t => match P.underlying t with | some (.int k') => kEq k' k | _ => false
  | .str, t => match P.underlying t with | some .string => true | _ => false
  | .slice e, t => match P.underlying t with | some (.slice et) => Nat.beq (P.cellsOf et) e.size && Nat.blt 0 e.size && shOk P e et | _ => false
  | .strct s, t => match P.underlying t with | some (.struct fs) => Nat.beq (P.cellsOf t) s.size && shFs P s 0 fs.toList | _ => false
  | _, _ => false
def shFs (P : Program) : Sh → Nat → List Field → Bool
  | .none, _, [] => true
  | .cons a b, off, f :: fs => Nat.beq f.offset off && Nat.beq (P.cellsOf f.type) a.size && shOk P a f.type && shFs P b (off + a.size) fs
  | _, _, _ => false
end
/-- What stands for a value of a shape. -/
def Wf : Sh → List AV → Prop
  | .bool, l => ∃ b, l = [.sc (.bool b)]
  | .int k, l => ∃ n, l = [.sc (.int k n)] ∧ (Lit.int k n).wf = true
  | .str, l => ∃ s : ByteArray, l = [.sc (.string s)] ∧ s.size ≤ 9223372036854775807
  | .slice e, l => ∃ rows : List (List AV), l = [.view rows.length rows.flatten] ∧ rows.length ≤ 9223372036854775807 ∧ ∀ r ∈ rows, Wf e r
  | .strct s, l => Wf s l
  | .none, l => l = []
  | .cons a b, l => ∃ x y, l = x ++ y ∧ Wf a x ∧ Wf b y
theorem VC.append {X : Ctx} {ad : Option Addr} : ∀ {xs ys : List AV} {k : Nat}, VC X ad k xs → VC X ad (k + xs.length) ys → VC X ad k (xs ++ ys)
  | [], ys, k, _, h => h
  | x :: xs, ys, k, h, h2 => by
    simp only [VC] at h
    simp only [List.cons_append, VC]
    refine ⟨h.1, VC.append h.2 ?_⟩
    rw [show k + 1 + xs.length = k + (x :: xs).length by simp; omega]
    exact h2
section
variable {Hh : Type} {enc : TypeId × Value → Hh} {P : Program} {w : World} {spare : Nat → Bool} {held : Bool}
def inX (w : World) : Ctx := ⟨fun _ => none, fun b => b < w.heap.size, w⟩
mutual
theorem open_sh : ∀ (sh : Sh) (t : TypeId) (cs : List Value) (x : DataW Hh × List MemPlace) (fuel : Nat), shOk P sh t = true → DataW.trod enc P w 0 spare held fuel t cs = some x →
    ∃ l, Wf sh l ∧ l.length = sh.size ∧ VL (inX w) l cs
  | .bool, t, cs, x, fuel, hs, h => by
    simp only [shOk] at hs
    split at hs
    · rename_i hu
      obtain ⟨b, rfl, _⟩ := DataW.trod_bool hu h
      exact ⟨[.sc (.bool b)], ⟨b, rfl⟩, rfl, by simp only [VL]; exact ⟨VR_bool.2 rfl, trivial⟩⟩
    · cases hs
  | .int k, t, cs, x, fuel, hs, h => by
    simp only [shOk] at hs
    split at hs
    · rename_i k' hu
      have := kEq_eq hs
      subst this
      obtain ⟨n, rfl, _, hw⟩ := DataW.trod_int hu h
      exact ⟨[.sc (.int k' n)], ⟨n, rfl, hw⟩, rfl, by simp only [VL]; exact ⟨VR_int.2 rfl, trivial⟩⟩
    · cases hs
  | .str, t, cs, x, fuel, hs, h => by
    simp only [shOk] at hs
    split at hs
    · rename_i hu
      obtain ⟨s, rfl, _, hl⟩ := DataW.trod_string hu h
      exact ⟨[.sc (.string s)], ⟨s, rfl, hl⟩, rfl, by simp only [VL]; exact ⟨VR_string.2 rfl, trivial⟩⟩
    · cases hs
  | .slice e, t, cs, x, fuel, hs, h => by
    simp only [shOk] at hs
    split at hs
    · rename_i et hu
      simp only [Bool.and_eq_true] at hs
      obtain ⟨⟨h1, h2⟩, h3⟩ := hs
      have h1 := Nat.eq_of_beq_eq_true h1
      have h2 : 0 < e.size := by simpa using h2
      rcases DataW.trod_slice hu h with ⟨rfl, _⟩ | ⟨a, len, cap, elems, rest, n, _, rfl, _, _, hlc, hcm, hel, hget, _, _⟩
      · refine ⟨[.view 0 []], ⟨[], rfl, by simp, by simp⟩, rfl, ?_⟩
        simp only [VL, VR, and_true]
        exact ⟨none, 0, rfl, Nat.le_refl _, .inl (by simp), by simp [VC]⟩
      · rw [h1] at hget
        have hone : ∀ i, i < len → ∃ cs' y, w.cells? 0 (a.add (i * e.size)) e.size = some cs' ∧ DataW.trod enc P w 0 spare held n et cs' = some y := fun i hi => by
          have := hget i hi
          rw [List.getElem?_eq_getElem (by omega)] at this
          obtain ⟨cs', hc, hy⟩ := Option.bind_eq_some_iff.1 this
          exact ⟨cs', _, hc, hy⟩
        have hsp : 0 < len → a.spot = none ∧ a.block < w.heap.size := fun h0 => by
          obtain ⟨cs', y, hc, _⟩ := hone 0 h0
          obtain ⟨_, hl, hcell⟩ := World.cells?_some hc
          have hcl := hcell 0 h2
          have hlt := World.cells?_block hc h2
          rw [Nat.zero_mul] at hcl hlt
          have e0 : (a.add 0).add 0 = a := rfl
          rw [e0, List.getElem?_eq_getElem (by omega)] at hcl
          refine ⟨?_, hlt⟩
          unfold World.cell? at hcl
          split at hcl
          · split at hcl
            · cases hcl
            · rename_i hs
              cases hq : a.spot with
              | none => rfl
              | some _ => rw [hq] at hs; exact absurd rfl hs
          · cases hcl
        have key : ∀ m i, i + m = len → ∃ rows : List (List AV), rows.length = m ∧ (∀ r ∈ rows, Wf e r) ∧ VC (inX w) (some a) (i * e.size) rows.flatten := by
          intro m
          induction m with
          | zero => intro i _; exact ⟨[], rfl, by simp, by simp [VC]⟩
          | succ m ih =>
            intro i hi
            obtain ⟨rows, hr1, hr2, hr3⟩ := ih (i + 1) (by omega)
            obtain ⟨cs', y, hc, hy⟩ := hone i (by omega)
            obtain ⟨hs1, hs2⟩ := hsp (by omega)
            obtain ⟨l, hw, hll, hv⟩ := open_sh e et cs' y n h3 hy
            obtain ⟨_, hl, hcell⟩ := World.cells?_some hc
            refine ⟨l :: rows, by simp [hr1], by simpa using ⟨hw, hr2⟩, ?_⟩
            rw [List.flatten_cons]
            refine VC.append (VC.of_get hs1 hs2 fun j c hj => ?_) ?_
            · obtain ⟨v, hv1, hv2⟩ := hv.get j c hj
              refine ⟨v, ?_, hv2⟩
              have hjl : j < e.size := by
                have := (List.getElem?_eq_some_iff.1 hj).1
                omega
              have := hcell j hjl
              rw [hv1, add_spot a _ hs1, add_spot _ _ rfl] at this
              show w.cell? _ = _
              rw [← this]
              simp [Nat.add_assoc]
            · rw [hll, show i * e.size + e.size = (i + 1) * e.size by rw [Nat.add_mul, Nat.one_mul]]
              exact hr3
        obtain ⟨rows, hr1, hr2, hr3⟩ := key len 0 (by omega)
        refine ⟨[.view rows.length rows.flatten], ⟨rows, rfl, by rw [hr1]; exact Nat.le_trans hlc hcm, hr2⟩, rfl, ?_⟩
        simp only [VL, VR, and_true]
        refine ⟨some a, cap, by rw [hr1], by rw [hr1]; exact hlc, ?_, by rw [Nat.zero_mul] at hr3; exact hr3⟩
        rcases Nat.eq_zero_or_pos len with h0 | h0
        · exact .inl (by rw [hr1]; exact h0)
        · exact .inr ⟨a, rfl, (hsp h0).1⟩
    · cases hs
  | .strct s, t, cs, x, fuel, hs, h => by
    simp only [shOk] at hs
    split at hs
    · rename_i fs hu
      simp only [Bool.and_eq_true] at hs
      have h1 := Nat.eq_of_beq_eq_true hs.1
      obtain ⟨xs, n, _, _, hl, hxs, hf⟩ := DataW.trod_struct hu h
      obtain ⟨l, hw, hll, hv⟩ := open_fs s 0 fs.toList cs n hs.2 (fun i f hi => by
        have hi' : fs[i]? = some f := by simpa using hi
        have := hf i f hi'
        have hlt : i < xs.length := by
          have := (Array.getElem?_eq_some_iff.1 hi').1
          omega
        rw [List.getElem?_eq_getElem hlt] at this
        exact ⟨_, this⟩) (by omega)
      refine ⟨l, hw, hll, ?_⟩
      rw [List.drop_zero, List.take_of_length_le (by omega)] at hv
      exact hv
    · cases hs
  | .none, t, cs, x, fuel, hs, h => by simp [shOk] at hs
  | .cons a b, t, cs, x, fuel, hs, h => by simp [shOk] at hs
theorem open_fs : ∀ (s : Sh) (off : Nat) (fs : List Field) (cs : List Value) (n : Nat), shFs P s off fs = true →
    (∀ (i : Nat) (f : Field), fs[i]? = some f → ∃ y, DataW.trod enc P w 0 spare held n f.type ((cs.drop f.offset).take (P.cellsOf f.type)) = some y) → off + s.size ≤ cs.length →
    ∃ l, Wf s l ∧ l.length = s.size ∧ VL (inX w) l ((cs.drop off).take s.size)
  | .none, off, [], cs, n, hs, hf, hl => ⟨[], rfl, rfl, by simp [Sh.size, VL]⟩
  | .none, off, _ :: _, cs, n, hs, hf, hl => by simp [shFs] at hs
  | .cons a b, off, [], cs, n, hs, hf, hl => by simp [shFs] at hs
  | .cons a b, off, f :: fs, cs, n, hs, hf, hl => by
    simp only [shFs, Bool.and_eq_true] at hs
    obtain ⟨⟨⟨h1, h2⟩, h3⟩, h4⟩ := hs
    have h1 := Nat.eq_of_beq_eq_true h1
    have h2 := Nat.eq_of_beq_eq_true h2
    simp only [Sh.size] at hl ⊢
    obtain ⟨y, hy⟩ := hf 0 f rfl
    rw [h1, h2] at hy
    obtain ⟨l1, hw1, hl1, hv1⟩ := open_sh a f.type _ y n h3 hy
    obtain ⟨l2, hw2, hl2, hv2⟩ := open_fs b (off + a.size) fs cs n h4 (fun i g hg => hf (i + 1) g (by simpa using hg)) (by omega)
    refine ⟨l1 ++ l2, ⟨l1, l2, rfl, hw1, hw2⟩, by rw [List.length_append, hl1, hl2], ?_⟩
    have e1 : (cs.drop off).take (a.size + b.size) = (cs.drop off).take a.size ++ (cs.drop (off + a.size)).take b.size := by
      rw [List.take_add, List.drop_drop]
    rw [e1]
    exact VL.append hv1 hv2
  | .bool, off, fs, cs, n, hs, hf, hl => by cases fs <;> simp [shFs] at hs
  | .int _, off, fs, cs, n, hs, hf, hl => by cases fs <;> simp [shFs] at hs
  | .str, off, fs, cs, n, hs, hf, hl => by cases fs <;> simp [shFs] at hs
  | .slice _, off, fs, cs, n, hs, hf, hl => by cases fs <;> simp [shFs] at hs
  | .strct _, off, fs, cs, n, hs, hf, hl => by cases fs <;> simp [shFs] at hs
end
/-- The value that is handed in: one cell, or a row of them. -/
def argA : Sh → List AV → AV
  | .strct _, l => .agg l
  | _, [a] => a
  | _, _ => .junk
theorem open_arg {sh : Sh} {b0 : Nat} {t : TypeId} {v : Value} {d : DataW Hh} {ps : List MemPlace} (hs : shOk P sh t = true) (hval : Value.okWide P w .any b0 t v) (hd : DataW.Trod enc P w 0 spare held t v d ps) :
    ∃ l, Wf sh l ∧ VR (inX w) (argA sh l) v := by
  obtain ⟨fuel, hf⟩ := hd
  obtain ⟨l, hw, hl, hv⟩ := open_sh sh t _ _ fuel hs hf
  refine ⟨l, hw, ?_⟩
  have one : l.length = 1 → (∀ s, sh ≠ .strct s) → v.oneCell' = true → VR (inX w) (argA sh l) v := fun h1 h2 h3 => by
    rw [cells_one h3] at hv
    match l, h1 with
    | [a], _ =>
      have : argA sh [a] = a := by
        cases sh <;> first | rfl | exact absurd rfl (h2 _)
      rw [this]
      simp only [VL] at hv
      exact hv.1
  cases sh with
  | strct s =>
    simp only [shOk] at hs
    split at hs
    · rename_i fs hu
      simp only [Value.okWide, hu] at hval
      obtain ⟨cs, rfl, _⟩ := hval
      show VR (inX w) (.agg l) (.agg cs)
      simp only [VR]
      exact ⟨cs, rfl, hv⟩
    · cases hs
  | none => simp [shOk] at hs
  | cons a b => simp [shOk] at hs
  | bool =>
    refine one hl (fun s h => by cases h) ?_
    simp only [shOk] at hs
    split at hs
    · rename_i hu
      obtain ⟨b, rfl⟩ := WideShapes.okWide_bool hu hval
      rfl
    · cases hs
  | int k =>
    refine one hl (fun s h => by cases h) ?_
    simp only [shOk] at hs
    split at hs
    · rename_i k' hu
      obtain ⟨b, rfl⟩ := WideShapes.okWide_int hu hval
      rfl
    · cases hs
  | str =>
    refine one hl (fun s h => by cases h) ?_
    simp only [shOk] at hs
    split at hs
    · rename_i hu
      obtain ⟨b, rfl⟩ := WideShapes.okWide_string hu hval
      rfl
    · cases hs
  | slice e =>
    refine one hl (fun s h => by cases h) ?_
    simp only [shOk] at hs
    split at hs
    · rename_i hu
      obtain ⟨a, n, c, rfl⟩ := WideShapes.okWide_slice hu hval
      rfl
    · cases hs
end
end Go.Proofs.YthbncljlclcecaaDoor.A
