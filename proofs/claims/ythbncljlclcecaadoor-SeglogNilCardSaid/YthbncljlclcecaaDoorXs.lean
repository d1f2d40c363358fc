/- extent: calls where the world is told out (printed by gencallt.py); awake. No condition. -/
import Derived.Test.YthbncljlclcecaaDoorXr
namespace Go.Proofs.YthbncljlclcecaaDoor.A
open Go
set_option linter.unusedVariables false
set_option linter.unusedSimpArgs false
set_option maxRecDepth 100000
set_option pp.maxSteps 600

theorem tell_2 {w : Wd} {sec : Nat} (h : w.is 2 sec) : ∃ (o : Bool) (x0 x1 : List ByteArray) (y0 y1 : Mp), w = ⟨o, sec, [x0, x1], [y0, y1]⟩ := by
  obtain ⟨o, s, D, M⟩ := w
  have h1 := h.n
  have h2 := h.s
  have h3 := h.ok.len
  dsimp only at h1 h2 h3
  subst h2
  match D, h1, M, h3 with
  | [x0, x1], _, [y0, y1], _ => exact ⟨o, x0, x1, y0, y1, rfl⟩
theorem callT_2 {P : Program} {g : FuncId} {bs args : List AV} {v : AV} {w w' : Wd} {off : Bool} {sec : Nat} {d0 d1 : List ByteArray} {m0 m1 : Mp} {E : Heap} {K : AV → Heap → Prop} {Kp : Value → Heap → Prop} (h : ACalls P g bs w.H (RetH v w'.H)) (hw : w = ⟨off, sec, [d0, d1], [m0, m1]⟩) (hi : w'.is 2 sec)
    (ha : args = renL (rn [0, 1, 2, 3, 4, 5, 6] ((Wd.mk off sec [d0, d1] [m0, m1]).H ++ E).length) bs) (hv : ren (rn [0, 1, 2, 3, 4, 5, 6] ((Wd.mk off sec [d0, d1] [m0, m1]).H ++ E).length) v = v)
    (k : ∀ (o : Bool) (x0 x1 : List ByteArray) (y0 y1 : Mp), w' = ⟨o, sec, [x0, x1], [y0, y1]⟩ → K v ((Wd.mk o sec [x0, x1] [y0, y1]).H ++ E)) :
    ACalls P g args ((Wd.mk off sec [d0, d1] [m0, m1]).H ++ E) (panK K Kp) := by
  subst hw
  obtain ⟨o, x0, x1, y0, y1, rfl⟩ := tell_2 hi
  exact callH h [0, 1, 2, 3, 4, 5, 6] ha ⟨.inl rfl, .inl rfl, .inl rfl, oS rfl, oS rfl, oM rfl, oM rfl, True.intro⟩ rfl hv (by unfold Wd.H merge; simp only [List.map_cons, List.map_nil, List.cons_append, List.nil_append, renH, renO_str, renO_mp]; exact Eq.trans (List.append_nil _) rfl) (k o x0 x1 y0 y1 rfl)
theorem callU_2 {P : Program} {g : FuncId} {bs args : List AV} {v : AV} {w w' : Wd} {off o : Bool} {sec : Nat} {d0 d1 x0 x1 : List ByteArray} {m0 m1 y0 y1 : Mp} {E : Heap} {K : AV → Heap → Prop} {Kp : Value → Heap → Prop} (h : ACalls P g bs w.H (RetH v w'.H)) (hw : w = ⟨off, sec, [d0, d1], [m0, m1]⟩) (hw' : w' = ⟨o, sec, [x0, x1], [y0, y1]⟩) (hi : w'.is 2 sec)
    (ha : args = renL (rn [0, 1, 2, 3, 4, 5, 6] ((Wd.mk off sec [d0, d1] [m0, m1]).H ++ E).length) bs) (hv : ren (rn [0, 1, 2, 3, 4, 5, 6] ((Wd.mk off sec [d0, d1] [m0, m1]).H ++ E).length) v = v)
    (k : K v ((Wd.mk o sec [x0, x1] [y0, y1]).H ++ E)) :
    ACalls P g args ((Wd.mk off sec [d0, d1] [m0, m1]).H ++ E) (panK K Kp) := by
  refine callT_2 h hw hi ha hv (fun o' x0' x1' y0' y1' e => ?_)
  cases hw'.symm.trans e
  exact k

theorem tell_4 {w : Wd} {sec : Nat} (h : w.is 4 sec) : ∃ (o : Bool) (x0 x1 x2 x3 : List ByteArray) (y0 y1 y2 y3 : Mp), w = ⟨o, sec, [x0, x1, x2, x3], [y0, y1, y2, y3]⟩ := by
  obtain ⟨o, s, D, M⟩ := w
  have h1 := h.n
  have h2 := h.s
  have h3 := h.ok.len
  dsimp only at h1 h2 h3
  subst h2
  match D, h1, M, h3 with
  | [x0, x1, x2, x3], _, [y0, y1, y2, y3], _ => exact ⟨o, x0, x1, x2, x3, y0, y1, y2, y3, rfl⟩
theorem callT_4 {P : Program} {g : FuncId} {bs args : List AV} {v : AV} {w w' : Wd} {off : Bool} {sec : Nat} {d0 d1 d2 d3 : List ByteArray} {m0 m1 m2 m3 : Mp} {E : Heap} {K : AV → Heap → Prop} {Kp : Value → Heap → Prop} (h : ACalls P g bs w.H (RetH v w'.H)) (hw : w = ⟨off, sec, [d0, d1, d2, d3], [m0, m1, m2, m3]⟩) (hi : w'.is 4 sec)
    (ha : args = renL (rn [0, 1, 2, 3, 4, 5, 6, 7, 8, 9, 10] ((Wd.mk off sec [d0, d1, d2, d3] [m0, m1, m2, m3]).H ++ E).length) bs) (hv : ren (rn [0, 1, 2, 3, 4, 5, 6, 7, 8, 9, 10] ((Wd.mk off sec [d0, d1, d2, d3] [m0, m1, m2, m3]).H ++ E).length) v = v)
    (k : ∀ (o : Bool) (x0 x1 x2 x3 : List ByteArray) (y0 y1 y2 y3 : Mp), w' = ⟨o, sec, [x0, x1, x2, x3], [y0, y1, y2, y3]⟩ → K v ((Wd.mk o sec [x0, x1, x2, x3] [y0, y1, y2, y3]).H ++ E)) :
    ACalls P g args ((Wd.mk off sec [d0, d1, d2, d3] [m0, m1, m2, m3]).H ++ E) (panK K Kp) := by
  subst hw
  obtain ⟨o, x0, x1, x2, x3, y0, y1, y2, y3, rfl⟩ := tell_4 hi
  exact callH h [0, 1, 2, 3, 4, 5, 6, 7, 8, 9, 10] ha ⟨.inl rfl, .inl rfl, .inl rfl, oS rfl, oS rfl, oS rfl, oS rfl, oM rfl, oM rfl, oM rfl, oM rfl, True.intro⟩ rfl hv (by unfold Wd.H merge; simp only [List.map_cons, List.map_nil, List.cons_append, List.nil_append, renH, renO_str, renO_mp]; exact Eq.trans (List.append_nil _) rfl) (k o x0 x1 x2 x3 y0 y1 y2 y3 rfl)
theorem callN_4 {P : Program} {g : FuncId} {bs args : List AV} {v : AV} {w' : Wd} {sec : Nat} {K : AV → Heap → Prop} {Kp : Value → Heap → Prop} (h : ACalls P g bs [] (RetH v w'.H)) (hi : w'.is 4 sec)
    (ha : args = renL (rn [] 0) bs) (hv : ren (rn [] 0) v = v)
    (k : ∀ (o : Bool) (x0 x1 x2 x3 : List ByteArray) (y0 y1 y2 y3 : Mp), w' = ⟨o, sec, [x0, x1, x2, x3], [y0, y1, y2, y3]⟩ → K v (Wd.mk o sec [x0, x1, x2, x3] [y0, y1, y2, y3]).H) :
    ACalls P g args [] (panK K Kp) := by
  obtain ⟨o, x0, x1, x2, x3, y0, y1, y2, y3, rfl⟩ := tell_4 hi
  exact callH h [] ha True.intro rfl hv (by unfold Wd.H merge; simp only [List.map_cons, List.map_nil, List.cons_append, List.nil_append, renH, renO_str, renO_mp]; rfl) (k o x0 x1 x2 x3 y0 y1 y2 y3 rfl)

theorem callU_4 {P : Program} {g : FuncId} {bs args : List AV} {v : AV} {w w' : Wd} {off o : Bool} {sec : Nat} {d0 d1 d2 d3 x0 x1 x2 x3 : List ByteArray} {m0 m1 m2 m3 y0 y1 y2 y3 : Mp} {E : Heap} {K : AV → Heap → Prop} {Kp : Value → Heap → Prop} (h : ACalls P g bs w.H (RetH v w'.H)) (hw : w = ⟨off, sec, [d0, d1, d2, d3], [m0, m1, m2, m3]⟩) (hw' : w' = ⟨o, sec, [x0, x1, x2, x3], [y0, y1, y2, y3]⟩) (hi : w'.is 4 sec)
    (ha : args = renL (rn [0, 1, 2, 3, 4, 5, 6, 7, 8, 9, 10] ((Wd.mk off sec [d0, d1, d2, d3] [m0, m1, m2, m3]).H ++ E).length) bs) (hv : ren (rn [0, 1, 2, 3, 4, 5, 6, 7, 8, 9, 10] ((Wd.mk off sec [d0, d1, d2, d3] [m0, m1, m2, m3]).H ++ E).length) v = v)
    (k : K v ((Wd.mk o sec [x0, x1, x2, x3] [y0, y1, y2, y3]).H ++ E)) :
    ACalls P g args ((Wd.mk off sec [d0, d1, d2, d3] [m0, m1, m2, m3]).H ++ E) (panK K Kp) := by
  refine callT_4 h hw hi ha hv (fun o' x0' x1' x2' x3' y0' y1' y2' y3' e => ?_)
  cases hw'.symm.trans e
  exact k

end Go.Proofs.YthbncljlclcecaaDoor.A
