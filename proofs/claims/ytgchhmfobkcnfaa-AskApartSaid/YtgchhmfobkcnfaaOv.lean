/- wire: items that a law is given. No condition. -/
import Derived.Test.YtgchhmfobkcnfaaOs
import Derived.Test.YtgchhmfobkcnfaaWq
namespace Go.Proofs.Ytgchhmfobkcnfaa.A
open Go
set_option linter.unusedVariables false
set_option maxRecDepth 100000

/-- Items that fit. -/
inductive RI : It → Prop where
  | mk (n : Nat) (s : ByteArray) (l : List Nat) (k : List It) : n < 18446744073709551616 → s.size ≤ 9223372036854775807 → (∀ y ∈ l, y < 18446744073709551616) → l.length ≤ 9223372036854775807 → k.length ≤ 9223372036854775807 → (∀ x ∈ k, RI x) → RI (.mk n s l k)
def RL (l : List It) : Prop := l.length ≤ 9223372036854775807 ∧ ∀ x ∈ l, RI x
/-- What stands for items. -/
def WfI (l : List AV) : Prop := ∃ L : List It, l = [itsV L] ∧ RL L
def sh3 : Sh := .cons (.int .u64) (.cons .str (.cons (.slice (.int .u64)) .none))
def itOk (P : Program) (ts ti : TypeId) : Bool :=
  (match P.underlying ts with | some (.slice e) => Nat.beq e ti | _ => false) && Nat.beq (P.cellsOf ti) 4 && Nat.beq (P.cellsOf ts) 1 &&
  (match P.underlying ti with
   | some (.struct fs) => (match fs.toList with
      | [a, b, c, d] => shFs P sh3 0 [a, b, c] && Nat.beq d.offset 3 && Nat.beq d.type ts
      | _ => false)
   | _ => false)
section
variable {Hh : Type} {enc : TypeId × Value → Hh} {P : Program} {w : World} {spare : Nat → Bool} {held : Bool}
theorem open_slice {Wq : List AV → Prop} {sz : Nat} {t et : TypeId} {cs : List Value} {x : DataW Hh × List MemPlace} {fuel : Nat} (hu : P.underlying t = some (.slice et)) (h1 : P.cellsOf et = sz) (h2 : 0 < sz) (h : DataW.trod enc P w 0 spare held fuel t cs = some x)
    (hrec : ∀ n, n < fuel → ∀ cs' y, DataW.trod enc P w 0 spare held n et cs' = some y → ∃ l, Wq l ∧ l.length = sz ∧ VL (inX w) l cs') :
    ∃ rows : List (List AV), rows.length ≤ 9223372036854775807 ∧ (∀ r ∈ rows, Wq r) ∧ VL (inX w) [.view rows.length rows.flatten] cs := by
  rcases DataW.trod_slice hu h with ⟨rfl, _⟩ | ⟨a, len, cap, elems, rest, n, hn, rfl, _, _, hlc, hcm, hel, hget, _, _⟩
  · refine ⟨[], by simp, by simp, ?_⟩
    simp only [VL, VR, and_true]
    exact ⟨none, 0, rfl, Nat.le_refl _, .inl (by simp), by simp [VC]⟩
  · rw [h1] at hget
    have hone : ∀ i, i < len → ∃ cs' y, w.cells? 0 (a.add (i * sz)) sz = some cs' ∧ DataW.trod enc P w 0 spare held n et cs' = some y := fun i hi => by
      have := hget i hi
      rw [List.getElem?_eq_getElem (by omega)] at this
      obtain ⟨cs', hc, hy⟩ := Option.bind_eq_some_iff.1 this
      exact ⟨cs', _, hc, hy⟩
    have hsp : 0 < len → a.spot = none ∧ a.block < w.heap.size := fun h0 => by
      obtain ⟨cs', y, hc, _⟩ := hone 0 h0
      obtain ⟨_, hl, hcell⟩ := World.cells?_some hc
      have hcl := hcell 0 h2
      have hlt := World.cells?_block hc h2
      rw [Nat.zero_mul] at hcl hlt
      have e0 : (a.add 0).add 0 = a := rfl
      rw [e0, List.getElem?_eq_getElem (by omega)] at hcl
      refine ⟨?_, hlt⟩
      unfold World.cell? at hcl
      split at hcl
      · split at hcl
        · cases hcl
        · rename_i hs
          cases hq : a.spot with
          | none => rfl
          | some _ => rw [hq] at hs; exact absurd rfl hs
      · cases hcl
    have key : ∀ m i, i + m = len → ∃ rows : List (List AV), rows.length = m ∧ (∀ r ∈ rows, Wq r) ∧ VC (inX w) (some a) (i * sz) rows.flatten := by
      intro m
      induction m with
      | zero => intro i _; exact ⟨[], rfl, by simp, by simp [VC]⟩
      | succ m ih =>
        intro i hi
        obtain ⟨rows, hr1, hr2, hr3⟩ := ih (i + 1) (by omega)
        obtain ⟨cs', y, hc, hy⟩ := hone i (by omega)
        obtain ⟨hs1, hs2⟩ := hsp (by omega)
        obtain ⟨l, hw, hll, hv⟩ := hrec n (by omega) cs' y hy
        obtain ⟨_, hl, hcell⟩ := World.cells?_some hc
        refine ⟨l :: rows, by simp [hr1], by simpa using ⟨hw, hr2⟩, ?_⟩
        rw [List.flatten_cons]
        refine VC.append (VC.of_get hs1 hs2 fun j c hj => ?_) ?_
        · obtain ⟨v, hv1, hv2⟩ := hv.get j c hj
          refine ⟨v, ?_, hv2⟩
          have hjl : j < sz := by
            have := (List.getElem?_eq_some_iff.1 hj).1
            omega
          have := hcell j hjl
          rw [hv1, add_spot a _ hs1, add_spot _ _ rfl] at this
          show w.cell? _ = _
          rw [← this]
          simp [Nat.add_assoc]
        · rw [hll, show i * sz + sz = (i + 1) * sz by rw [Nat.add_mul, Nat.one_mul]]
          exact hr3
    obtain ⟨rows, hr1, hr2, hr3⟩ := key len 0 (by omega)
    refine ⟨rows, by rw [hr1]; exact Nat.le_trans hlc hcm, hr2, ?_⟩
    simp only [VL, VR, and_true]
    refine ⟨some a, cap, by rw [hr1], by rw [hr1]; exact hlc, ?_, by rw [Nat.zero_mul] at hr3; exact hr3⟩
    rcases Nat.eq_zero_or_pos len with h0 | h0
    · exact .inl (by rw [hr1]; exact h0)
    · exact .inr ⟨a, rfl, (hsp h0).1⟩
theorem rows_its : ∀ rows : List (List AV), (∀ r ∈ rows, ∃ x : It, r = itC x ∧ RI x) → ∃ L : List It, L.length = rows.length ∧ rows.flatten = flat itC L ∧ ∀ x ∈ L, RI x
  | [], _ => ⟨[], rfl, rfl, by simp⟩
  | r :: rows, h => by
    obtain ⟨L, h1, h2, h3⟩ := rows_its rows fun r hr => h r (List.mem_cons_of_mem _ hr)
    obtain ⟨x, rfl, hx⟩ := h r (List.mem_cons_self ..)
    exact ⟨x :: L, by simp [h1], by rw [List.flatten_cons, h2]; rfl, by simpa using ⟨hx, h3⟩⟩
theorem open_its {ts ti : TypeId} (ho : itOk P ts ti = true) : ∀ (fuel : Nat), (∀ cs x, DataW.trod enc P w 0 spare held fuel ts cs = some x → ∃ l, WfI l ∧ VL (inX w) l cs) ∧
    (∀ cs x, DataW.trod enc P w 0 spare held fuel ti cs = some x → ∃ l, (∃ y : It, l = itC y ∧ RI y) ∧ l.length = 4 ∧ VL (inX w) l cs) := by
  simp only [itOk, Bool.and_eq_true] at ho
  obtain ⟨⟨⟨o1, o2⟩, o3⟩, o4⟩ := ho
  intro fuel
  induction fuel using Nat.strongRecOn with
  | _ fuel ih =>
    refine ⟨fun cs x h => ?_, fun cs x h => ?_⟩
    · split at o1
      · rename_i e he
        have := Nat.eq_of_beq_eq_true o1
        subst this
        obtain ⟨rows, h1, h2, h3⟩ := open_slice he (Nat.eq_of_beq_eq_true o2) (by decide) h fun n hn => (ih n hn).2
        obtain ⟨L, g1, g2, g3⟩ := rows_its rows h2
        rw [← g1, g2] at h3
        exact ⟨_, ⟨L, rfl, by rw [g1]; exact h1, g3⟩, h3⟩
      · cases o1
    · split at o4
      · rename_i fs he
        split at o4
        · rename_i a b c d hfs
          simp only [Bool.and_eq_true] at o4
          obtain ⟨⟨q1, q2⟩, q3⟩ := o4
          have q2 := Nat.eq_of_beq_eq_true q2
          have q3 := Nat.eq_of_beq_eq_true q3
          obtain ⟨xs, n, hn, _, hl, hxs, hf⟩ := DataW.trod_struct he h
          rw [Nat.eq_of_beq_eq_true o2] at hl
          have hsz : fs.size = 4 := by rw [← Array.length_toList, hfs]; rfl
          have hfi : ∀ (i : Nat) (f : Field), [a, b, c, d][i]? = some f → ∃ y, DataW.trod enc P w 0 spare held n f.type ((cs.drop f.offset).take (P.cellsOf f.type)) = some y := fun i f hi => by
            have hi' : fs[i]? = some f := by rw [← hfs] at hi; simpa using hi
            have := hf i f hi'
            have hlt : i < xs.length := by
              have := (Array.getElem?_eq_some_iff.1 hi').1
              omega
            rw [List.getElem?_eq_getElem hlt] at this
            exact ⟨_, this⟩
          obtain ⟨l, hw, hll, hv⟩ := open_fs sh3 0 [a, b, c] cs n q1 (fun i f hi => hfi i f (by
            match i, hi with
            | 0, hi => exact hi
            | 1, hi => exact hi
            | 2, hi => exact hi)) (by show 0 + 3 ≤ cs.length; omega)
          obtain ⟨y, hy⟩ := hfi 3 d rfl
          rw [q2, q3, Nat.eq_of_beq_eq_true o3] at hy
          obtain ⟨l4, ⟨K, rfl, hK⟩, hv4⟩ := (ih n (by omega)).1 _ _ hy
          obtain ⟨x1, r1, rfl, hx1, x2, r2, rfl, hx2, x3, r3, rfl, hx3, hr3⟩ := hw
          have hr3 : r3 = [] := hr3
          subst hr3
          obtain ⟨m, rfl, hm⟩ := wf_nat hx1
          obtain ⟨s, rfl, hs⟩ := hx2
          obtain ⟨l2, rfl, hl2, hl2n⟩ := wf_nats hx3
          refine ⟨itC (.mk m s l2 K), ⟨_, rfl, .mk _ _ _ _ hm hs hl2 hl2n hK.1 hK.2⟩, rfl, ?_⟩
          have e1 : cs = (cs.drop 0).take 3 ++ (cs.drop 3).take 1 := by
            rw [List.drop_zero, List.take_of_length_le (l := cs.drop 3) (by rw [List.length_drop]; omega), List.take_append_drop]
          have e2 : itC (.mk m s l2 K) = ([u64 m] ++ ([str s] ++ ([us l2] ++ []))) ++ [itsV K] := by rw [itC, itsC_flat]; rfl
          rw [e2, e1]
          exact VL.append hv hv4
        · cases o4
      · cases o4
theorem open_argI {ts ti : TypeId} {b0 : Nat} {v : Value} {d : DataW Hh} {ps : List MemPlace} (ho : itOk P ts ti = true) (hval : Value.okWide P w .any b0 ts v) (hd : DataW.Trod enc P w 0 spare held ts v d ps) :
    ∃ L : List It, RL L ∧ VR (inX w) (itsV L) v := by
  obtain ⟨fuel, hf⟩ := hd
  obtain ⟨l, ⟨L, rfl, hL⟩, hv⟩ := (open_its ho fuel).1 _ _ hf
  refine ⟨L, hL, ?_⟩
  have h3 : v.oneCell' = true := by
    simp only [itOk, Bool.and_eq_true] at ho
    obtain ⟨⟨⟨o1, _⟩, _⟩, _⟩ := ho
    split at o1
    · rename_i hu
      obtain ⟨a, n, c, rfl⟩ := WideShapes.okWide_slice hu hval
      rfl
    · cases o1
  rw [cells_one h3] at hv
  simp only [VL] at hv
  exact hv.1
end
end Go.Proofs.Ytgchhmfobkcnfaa.A
