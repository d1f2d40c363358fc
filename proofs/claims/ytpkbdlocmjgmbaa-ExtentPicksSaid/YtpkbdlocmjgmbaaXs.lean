/- extent: calls where the world is told out (printed by gencallt.py); awake. No condition. -/
import Derived.Test.YtpkbdlocmjgmbaaXr
namespace Go.Proofs.Ytpkbdlocmjgmbaa.A
open Go
set_option linter.unusedVariables false
set_option linter.unusedSimpArgs false
set_option maxRecDepth 100000
set_option pp.maxSteps 600

theorem tell_1 {w : Wd} {sec : Nat} (h : w.is 1 sec) : ∃ (o : Bool) (x0 : List ByteArray) (y0 : Mp), w = ⟨o, sec, [x0], [y0]⟩ := by
  obtain ⟨o, s, D, M⟩ := w
  have h1 := h.n
  have h2 := h.s
  have h3 := h.ok.len
  dsimp only at h1 h2 h3
  subst h2
  match D, h1, M, h3 with
  | [x0], _, [y0], _ => exact ⟨o, x0, y0, rfl⟩
theorem callT_1 {P : Program} {g : FuncId} {bs args : List AV} {v : AV} {w w' : Wd} {off : Bool} {sec : Nat} {d0 : List ByteArray} {m0 : Mp} {E : Heap} {K : AV → Heap → Prop} {Kp : Value → Heap → Prop} (h : ACalls P g bs w.H (RetH v w'.H)) (hw : w = ⟨off, sec, [d0], [m0]⟩) (hi : w'.is 1 sec)
    (ha : args = renL (rn [0, 1, 2, 3, 4] ((Wd.mk off sec [d0] [m0]).H ++ E).length) bs) (hv : ren (rn [0, 1, 2, 3, 4] ((Wd.mk off sec [d0] [m0]).H ++ E).length) v = v)
    (k : ∀ (o : Bool) (x0 : List ByteArray) (y0 : Mp), w' = ⟨o, sec, [x0], [y0]⟩ → K v ((Wd.mk o sec [x0] [y0]).H ++ E)) :
    ACalls P g args ((Wd.mk off sec [d0] [m0]).H ++ E) (panK K Kp) := by
  subst hw
  obtain ⟨o, x0, y0, rfl⟩ := tell_1 hi
  exact callH h [0, 1, 2, 3, 4] ha ⟨.inl rfl, .inl rfl, .inl rfl, .inl (by rw [renO_str]; rfl), .inl (by rw [renO_mp]; rfl), True.intro⟩ rfl hv (by unfold Wd.H merge; simp only [List.map_cons, List.map_nil, List.cons_append, List.nil_append, renH, renO_str, renO_mp]; exact Eq.trans (List.append_nil _) rfl) (k o x0 y0 rfl)
theorem callN_1 {P : Program} {g : FuncId} {bs args : List AV} {v : AV} {w' : Wd} {sec : Nat} {K : AV → Heap → Prop} {Kp : Value → Heap → Prop} (h : ACalls P g bs [] (RetH v w'.H)) (hi : w'.is 1 sec)
    (ha : args = renL (rn [] 0) bs) (hv : ren (rn [] 0) v = v)
    (k : ∀ (o : Bool) (x0 : List ByteArray) (y0 : Mp), w' = ⟨o, sec, [x0], [y0]⟩ → K v (Wd.mk o sec [x0] [y0]).H) :
    ACalls P g args [] (panK K Kp) := by
  obtain ⟨o, x0, y0, rfl⟩ := tell_1 hi
  exact callH h [] ha True.intro rfl hv (by unfold Wd.H merge; simp only [List.map_cons, List.map_nil, List.cons_append, List.nil_append, renH, renO_str, renO_mp]; rfl) (k o x0 y0 rfl)

theorem tell_4 {w : Wd} {sec : Nat} (h : w.is 4 sec) : ∃ (o : Bool) (x0 x1 x2 x3 : List ByteArray) (y0 y1 y2 y3 : Mp), w = ⟨o, sec, [x0, x1, x2, x3], [y0, y1, y2, y3]⟩ := by
  obtain ⟨o, s, D, M⟩ := w
  have h1 := h.n
  have h2 := h.s
  have h3 := h.ok.len
  dsimp only at h1 h2 h3
  subst h2
  match D, h1, M, h3 with
  | [x0, x1, x2, x3], _, [y0, y1, y2, y3], _ => exact ⟨o, x0, x1, x2, x3, y0, y1, y2, y3, rfl⟩
theorem callT_4 {P : Program} {g : FuncId} {bs args : List AV} {v : AV} {w w' : Wd} {off : Bool} {sec : Nat} {d0 d1 d2 d3 : List ByteArray} {m0 m1 m2 m3 : Mp} {E : Heap} {K : AV → Heap → Prop} {Kp : Value → Heap → Prop} (h : ACalls P g bs w.H (RetH v w'.H)) (hw : w = ⟨off, sec, [d0, d1, d2, d3], [m0, m1, m2, m3]⟩) (hi : w'.is 4 sec)
    (ha : args = renL (rn [0, 1, 2, 3, 4, 5, 6, 7, 8, 9, 10] ((Wd.mk off sec [d0, d1, d2, d3] [m0, m1, m2, m3]).H ++ E).length) bs) (hv : ren (rn [0, 1, 2, 3, 4, 5, 6, 7, 8, 9, 10] ((Wd.mk off sec [d0, d1, d2, d3] [m0, m1, m2, m3]).H ++ E).length) v = v)
    (k : ∀ (o : Bool) (x0 x1 x2 x3 : List ByteArray) (y0 y1 y2 y3 : Mp), w' = ⟨o, sec, [x0, x1, x2, x3], [y0, y1, y2, y3]⟩ → K v ((Wd.mk o sec [x0, x1, x2, x3] [y0, y1, y2, y3]).H ++ E)) :
    ACalls P g args ((Wd.mk off sec [d0, d1, d2, d3] [m0, m1, m2, m3]).H ++ E) (panK K Kp) := by
  subst hw
  obtain ⟨o, x0, x1, x2, x3, y0, y1, y2, y3, rfl⟩ := tell_4 hi
  exact callH h [0, 1, 2, 3, 4, 5, 6, 7, 8, 9, 10] ha ⟨.inl rfl, .inl rfl, .inl rfl, .inl (by rw [renO_str]; rfl), .inl (by rw [renO_str]; rfl), .inl (by rw [renO_str]; rfl), .inl (by rw [renO_str]; rfl), .inl (by rw [renO_mp]; rfl), .inl (by rw [renO_mp]; rfl), .inl (by rw [renO_mp]; rfl), .inl (by rw [renO_mp]; rfl), True.intro⟩ rfl hv (by unfold Wd.H merge; simp only [List.map_cons, List.map_nil, List.cons_append, List.nil_append, renH, renO_str, renO_mp]; exact Eq.trans (List.append_nil _) rfl) (k o x0 x1 x2 x3 y0 y1 y2 y3 rfl)
theorem callN_4 {P : Program} {g : FuncId} {bs args : List AV} {v : AV} {w' : Wd} {sec : Nat} {K : AV → Heap → Prop} {Kp : Value → Heap → Prop} (h : ACalls P g bs [] (RetH v w'.H)) (hi : w'.is 4 sec)
    (ha : args = renL (rn [] 0) bs) (hv : ren (rn [] 0) v = v)
    (k : ∀ (o : Bool) (x0 x1 x2 x3 : List ByteArray) (y0 y1 y2 y3 : Mp), w' = ⟨o, sec, [x0, x1, x2, x3], [y0, y1, y2, y3]⟩ → K v (Wd.mk o sec [x0, x1, x2, x3] [y0, y1, y2, y3]).H) :
    ACalls P g args [] (panK K Kp) := by
  obtain ⟨o, x0, x1, x2, x3, y0, y1, y2, y3, rfl⟩ := tell_4 hi
  exact callH h [] ha True.intro rfl hv (by unfold Wd.H merge; simp only [List.map_cons, List.map_nil, List.cons_append, List.nil_append, renH, renO_str, renO_mp]; rfl) (k o x0 x1 x2 x3 y0 y1 y2 y3 rfl)

theorem callU_4 {P : Program} {g : FuncId} {bs args : List AV} {v : AV} {w w' : Wd} {off o : Bool} {sec : Nat} {d0 d1 d2 d3 x0 x1 x2 x3 : List ByteArray} {m0 m1 m2 m3 y0 y1 y2 y3 : Mp} {E : Heap} {K : AV → Heap → Prop} {Kp : Value → Heap → Prop} (h : ACalls P g bs w.H (RetH v w'.H)) (hw : w = ⟨off, sec, [d0, d1, d2, d3], [m0, m1, m2, m3]⟩) (hw' : w' = ⟨o, sec, [x0, x1, x2, x3], [y0, y1, y2, y3]⟩) (hi : w'.is 4 sec)
    (ha : args = renL (rn [0, 1, 2, 3, 4, 5, 6, 7, 8, 9, 10] ((Wd.mk off sec [d0, d1, d2, d3] [m0, m1, m2, m3]).H ++ E).length) bs) (hv : ren (rn [0, 1, 2, 3, 4, 5, 6, 7, 8, 9, 10] ((Wd.mk off sec [d0, d1, d2, d3] [m0, m1, m2, m3]).H ++ E).length) v = v)
    (k : K v ((Wd.mk o sec [x0, x1, x2, x3] [y0, y1, y2, y3]).H ++ E)) :
    ACalls P g args ((Wd.mk off sec [d0, d1, d2, d3] [m0, m1, m2, m3]).H ++ E) (panK K Kp) := by
  refine callT_4 h hw hi ha hv (fun o' x0' x1' x2' x3' y0' y1' y2' y3' e => ?_)
  cases hw'.symm.trans e
  exact k

end Go.Proofs.Ytpkbdlocmjgmbaa.A
