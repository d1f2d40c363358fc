/- extent: calls where the world is told out (printed by gencallt.py); awake. No condition. -/
import Derived.Test.YtpkbdlocmjgmbaaXr
namespace Go.Proofs.Ytpkbdlocmjgmbaa.A
open Go
set_option linter.unusedVariables false
set_option linter.unusedSimpArgs false
set_option maxRecDepth 100000
set_option pp.maxSteps 600

theorem tell_1 {w : Wd} {sec : Nat} (h : w.is 1 sec) : ∃ (o : Bool) (x0 : List ByteArray) (y0 : Mp), w = ⟨o, sec, [x0], [y0]⟩ := by
  obtain ⟨o, s, D, M⟩ := w
  have h1 := h.n
  have h2 := h.s
  have h3 := h.ok.len
  dsimp only at h1 h2 h3
  subst h2
  match D, h1, M, h3 with
  | [x0], _, [y0], _ => exact ⟨o, x0, y0, rfl⟩
theorem callT_1 {P : Program} {g : FuncId} {bs args : List AV} {v : AV} {w w' : Wd} {off : Bool} {sec : Nat} {d0 : List ByteArray} {m0 : Mp} {E : Heap} {K : AV → Heap → Prop} {Kp : Value → Heap → Prop} (h : ACalls P g bs w.H (RetH v w'.H)) (hw : w = ⟨off, sec, [d0], [m0]⟩) (hi : w'.is 1 sec)
    (ha : args = renL (rn [0, 1, 2, 3, 4] ((Wd.mk off sec [d0] [m0]).H ++ E).length) bs) (hv : ren (rn [0, 1, 2, 3, 4] ((Wd.mk off sec [d0] [m0]).H ++ E).length) v = v)
    (k : ∀ (o : Bool) (x0 : List ByteArray) (y0 : Mp), w' = ⟨o, sec, [x0], [y0]⟩ → K v ((Wd.mk o sec [x0] [y0]).H ++ E)) :
    ACalls P g args ((Wd.mk off sec [d0] [m0]).H ++ E) (panK K Kp) := by
  subst hw
  obtain ⟨o, x0, y0, rfl⟩ := tell_1 hi
  exact callH h [0, 1, 2, 3, 4] ha ⟨.inl rfl, .inl rfl, .inl rfl, oS rfl, oM rfl, True.intro⟩ rfl hv (by unfold Wd.H merge; simp only [List.map_cons, List.map_nil, List.cons_append, List.nil_append, renH, renO_str, renO_mp]; exact Eq.trans (List.append_nil _) rfl) (k o x0 y0 rfl)
theorem callN_1 {P : Program} {g : FuncId} {bs args : List AV} {v : AV} {w' : Wd} {sec : Nat} {K : AV → Heap → Prop} {Kp : Value → Heap → Prop} (h : ACalls P g bs [] (RetH v w'.H)) (hi : w'.is 1 sec)
    (ha : args = renL (rn [] 0) bs) (hv : ren (rn [] 0) v = v)
    (k : ∀ (o : Bool) (x0 : List ByteArray) (y0 : Mp), w' = ⟨o, sec, [x0], [y0]⟩ → K v (Wd.mk o sec [x0] [y0]).H) :
    ACalls P g args [] (panK K Kp) := by
  obtain ⟨o, x0, y0, rfl⟩ := tell_1 hi
  exact callH h [] ha True.intro rfl hv (by unfold Wd.H merge; simp only [List.map_cons, List.map_nil, List.cons_append, List.nil_append, renH, renO_str, renO_mp]; rfl) (k o x0 y0 rfl)

theorem callU_1 {P : Program} {g : FuncId} {bs args : List AV} {v : AV} {w w' : Wd} {off o : Bool} {sec : Nat} {d0 x0 : List ByteArray} {m0 y0 : Mp} {E : Heap} {K : AV → Heap → Prop} {Kp : Value → Heap → Prop} (h : ACalls P g bs w.H (RetH v w'.H)) (hw : w = ⟨off, sec, [d0], [m0]⟩) (hw' : w' = ⟨o, sec, [x0], [y0]⟩) (hi : w'.is 1 sec)
    (ha : args = renL (rn [0, 1, 2, 3, 4] ((Wd.mk off sec [d0] [m0]).H ++ E).length) bs) (hv : ren (rn [0, 1, 2, 3, 4] ((Wd.mk off sec [d0] [m0]).H ++ E).length) v = v)
    (k : K v ((Wd.mk o sec [x0] [y0]).H ++ E)) :
    ACalls P g args ((Wd.mk off sec [d0] [m0]).H ++ E) (panK K Kp) := by
  refine callT_1 h hw hi ha hv (fun o' x0' y0' e => ?_)
  cases hw'.symm.trans e
  exact k

theorem tell_2 {w : Wd} {sec : Nat} (h : w.is 2 sec) : ∃ (o : Bool) (x0 x1 : List ByteArray) (y0 y1 : Mp), w = ⟨o, sec, [x0, x1], [y0, y1]⟩ := by
  obtain ⟨o, s, D, M⟩ := w
  have h1 := h.n
  have h2 := h.s
  have h3 := h.ok.len
  dsimp only at h1 h2 h3
  subst h2
  match D, h1, M, h3 with
  | [x0, x1], _, [y0, y1], _ => exact ⟨o, x0, x1, y0, y1, rfl⟩
theorem callT_2 {P : Program} {g : FuncId} {bs args : List AV} {v : AV} {w w' : Wd} {off : Bool} {sec : Nat} {d0 d1 : List ByteArray} {m0 m1 : Mp} {E : Heap} {K : AV → Heap → Prop} {Kp : Value → Heap → Prop} (h : ACalls P g bs w.H (RetH v w'.H)) (hw : w = ⟨off, sec, [d0, d1], [m0, m1]⟩) (hi : w'.is 2 sec)
    (ha : args = renL (rn [0, 1, 2, 3, 4, 5, 6] ((Wd.mk off sec [d0, d1] [m0, m1]).H ++ E).length) bs) (hv : ren (rn [0, 1, 2, 3, 4, 5, 6] ((Wd.mk off sec [d0, d1] [m0, m1]).H ++ E).length) v = v)
    (k : ∀ (o : Bool) (x0 x1 : List ByteArray) (y0 y1 : Mp), w' = ⟨o, sec, [x0, x1], [y0, y1]⟩ → K v ((Wd.mk o sec [x0, x1] [y0, y1]).H ++ E)) :
    ACalls P g args ((Wd.mk off sec [d0, d1] [m0, m1]).H ++ E) (panK K Kp) := by
  subst hw
  obtain ⟨o, x0, x1, y0, y1, rfl⟩ := tell_2 hi
  exact callH h [0, 1, 2, 3, 4, 5, 6] ha ⟨.inl rfl, .inl rfl, .inl rfl, oS rfl, oS rfl, oM rfl, oM rfl, True.intro⟩ rfl hv (by unfold Wd.H merge; simp only [List.map_cons, List.map_nil, List.cons_append, List.nil_append, renH, renO_str, renO_mp]; exact Eq.trans (List.append_nil _) rfl) (k o x0 x1 y0 y1 rfl)
theorem callN_2 {P : Program} {g : FuncId} {bs args : List AV} {v : AV} {w' : Wd} {sec : Nat} {K : AV → Heap → Prop} {Kp : Value → Heap → Prop} (h : ACalls P g bs [] (RetH v w'.H)) (hi : w'.is 2 sec)
    (ha : args = renL (rn [] 0) bs) (hv : ren (rn [] 0) v = v)
    (k : ∀ (o : Bool) (x0 x1 : List ByteArray) (y0 y1 : Mp), w' = ⟨o, sec, [x0, x1], [y0, y1]⟩ → K v (Wd.mk o sec [x0, x1] [y0, y1]).H) :
    ACalls P g args [] (panK K Kp) := by
  obtain ⟨o, x0, x1, y0, y1, rfl⟩ := tell_2 hi
  exact callH h [] ha True.intro rfl hv (by unfold Wd.H merge; simp only [List.map_cons, List.map_nil, List.cons_append, List.nil_append, renH, renO_str, renO_mp]; rfl) (k o x0 x1 y0 y1 rfl)

theorem callU_2 {P : Program} {g : FuncId} {bs args : List AV} {v : AV} {w w' : Wd} {off o : Bool} {sec : Nat} {d0 d1 x0 x1 : List ByteArray} {m0 m1 y0 y1 : Mp} {E : Heap} {K : AV → Heap → Prop} {Kp : Value → Heap → Prop} (h : ACalls P g bs w.H (RetH v w'.H)) (hw : w = ⟨off, sec, [d0, d1], [m0, m1]⟩) (hw' : w' = ⟨o, sec, [x0, x1], [y0, y1]⟩) (hi : w'.is 2 sec)
    (ha : args = renL (rn [0, 1, 2, 3, 4, 5, 6] ((Wd.mk off sec [d0, d1] [m0, m1]).H ++ E).length) bs) (hv : ren (rn [0, 1, 2, 3, 4, 5, 6] ((Wd.mk off sec [d0, d1] [m0, m1]).H ++ E).length) v = v)
    (k : K v ((Wd.mk o sec [x0, x1] [y0, y1]).H ++ E)) :
    ACalls P g args ((Wd.mk off sec [d0, d1] [m0, m1]).H ++ E) (panK K Kp) := by
  refine callT_2 h hw hi ha hv (fun o' x0' x1' y0' y1' e => ?_)
  cases hw'.symm.trans e
  exact k

theorem tell_3 {w : Wd} {sec : Nat} (h : w.is 3 sec) : ∃ (o : Bool) (x0 x1 x2 : List ByteArray) (y0 y1 y2 : Mp), w = ⟨o, sec, [x0, x1, x2], [y0, y1, y2]⟩ := by
  obtain ⟨o, s, D, M⟩ := w
  have h1 := h.n
  have h2 := h.s
  have h3 := h.ok.len
  dsimp only at h1 h2 h3
  subst h2
  match D, h1, M, h3 with
  | [x0, x1, x2], _, [y0, y1, y2], _ => exact ⟨o, x0, x1, x2, y0, y1, y2, rfl⟩
theorem callT_3 {P : Program} {g : FuncId} {bs args : List AV} {v : AV} {w w' : Wd} {off : Bool} {sec : Nat} {d0 d1 d2 : List ByteArray} {m0 m1 m2 : Mp} {E : Heap} {K : AV → Heap → Prop} {Kp : Value → Heap → Prop} (h : ACalls P g bs w.H (RetH v w'.H)) (hw : w = ⟨off, sec, [d0, d1, d2], [m0, m1, m2]⟩) (hi : w'.is 3 sec)
    (ha : args = renL (rn [0, 1, 2, 3, 4, 5, 6, 7, 8] ((Wd.mk off sec [d0, d1, d2] [m0, m1, m2]).H ++ E).length) bs) (hv : ren (rn [0, 1, 2, 3, 4, 5, 6, 7, 8] ((Wd.mk off sec [d0, d1, d2] [m0, m1, m2]).H ++ E).length) v = v)
    (k : ∀ (o : Bool) (x0 x1 x2 : List ByteArray) (y0 y1 y2 : Mp), w' = ⟨o, sec, [x0, x1, x2], [y0, y1, y2]⟩ → K v ((Wd.mk o sec [x0, x1, x2] [y0, y1, y2]).H ++ E)) :
    ACalls P g args ((Wd.mk off sec [d0, d1, d2] [m0, m1, m2]).H ++ E) (panK K Kp) := by
  subst hw
  obtain ⟨o, x0, x1, x2, y0, y1, y2, rfl⟩ := tell_3 hi
  exact callH h [0, 1, 2, 3, 4, 5, 6, 7, 8] ha ⟨.inl rfl, .inl rfl, .inl rfl, oS rfl, oS rfl, oS rfl, oM rfl, oM rfl, oM rfl, True.intro⟩ rfl hv (by unfold Wd.H merge; simp only [List.map_cons, List.map_nil, List.cons_append, List.nil_append, renH, renO_str, renO_mp]; exact Eq.trans (List.append_nil _) rfl) (k o x0 x1 x2 y0 y1 y2 rfl)
theorem callN_3 {P : Program} {g : FuncId} {bs args : List AV} {v : AV} {w' : Wd} {sec : Nat} {K : AV → Heap → Prop} {Kp : Value → Heap → Prop} (h : ACalls P g bs [] (RetH v w'.H)) (hi : w'.is 3 sec)
    (ha : args = renL (rn [] 0) bs) (hv : ren (rn [] 0) v = v)
    (k : ∀ (o : Bool) (x0 x1 x2 : List ByteArray) (y0 y1 y2 : Mp), w' = ⟨o, sec, [x0, x1, x2], [y0, y1, y2]⟩ → K v (Wd.mk o sec [x0, x1, x2] [y0, y1, y2]).H) :
    ACalls P g args [] (panK K Kp) := by
  obtain ⟨o, x0, x1, x2, y0, y1, y2, rfl⟩ := tell_3 hi
  exact callH h [] ha True.intro rfl hv (by unfold Wd.H merge; simp only [List.map_cons, List.map_nil, List.cons_append, List.nil_append, renH, renO_str, renO_mp]; rfl) (k o x0 x1 x2 y0 y1 y2 rfl)

theorem callU_3 {P : Program} {g : FuncId} {bs args : List AV} {v : AV} {w w' : Wd} {off o : Bool} {sec : Nat} {d0 d1 d2 x0 x1 x2 : List ByteArray} {m0 m1 m2 y0 y1 y2 : Mp} {E : Heap} {K : AV → Heap → Prop} {Kp : Value → Heap → Prop} (h : ACalls P g bs w.H (RetH v w'.H)) (hw : w = ⟨off, sec, [d0, d1, d2], [m0, m1, m2]⟩) (hw' : w' = ⟨o, sec, [x0, x1, x2], [y0, y1, y2]⟩) (hi : w'.is 3 sec)
    (ha : args = renL (rn [0, 1, 2, 3, 4, 5, 6, 7, 8] ((Wd.mk off sec [d0, d1, d2] [m0, m1, m2]).H ++ E).length) bs) (hv : ren (rn [0, 1, 2, 3, 4, 5, 6, 7, 8] ((Wd.mk off sec [d0, d1, d2] [m0, m1, m2]).H ++ E).length) v = v)
    (k : K v ((Wd.mk o sec [x0, x1, x2] [y0, y1, y2]).H ++ E)) :
    ACalls P g args ((Wd.mk off sec [d0, d1, d2] [m0, m1, m2]).H ++ E) (panK K Kp) := by
  refine callT_3 h hw hi ha hv (fun o' x0' x1' x2' y0' y1' y2' e => ?_)
  cases hw'.symm.trans e
  exact k

theorem tell_4 {w : Wd} {sec : Nat} (h : w.is 4 sec) : ∃ (o : Bool) (x0 x1 x2 x3 : List ByteArray) (y0 y1 y2 y3 : Mp), w = ⟨o, sec, [x0, x1, x2, x3], [y0, y1, y2, y3]⟩ := by
  obtain ⟨o, s, D, M⟩ := w
  have h1 := h.n
  have h2 := h.s
  have h3 := h.ok.len
  dsimp only at h1 h2 h3
  subst h2
  match D, h1, M, h3 with
  | [x0, x1, x2, x3], _, [y0, y1, y2, y3], _ => exact ⟨o, x0, x1, x2, x3, y0, y1, y2, y3, rfl⟩
theorem callT_4 {P : Program} {g : FuncId} {bs args : List AV} {v : AV} {w w' : Wd} {off : Bool} {sec : Nat} {d0 d1 d2 d3 : List ByteArray} {m0 m1 m2 m3 : Mp} {E : Heap} {K : AV → Heap → Prop} {Kp : Value → Heap → Prop} (h : ACalls P g bs w.H (RetH v w'.H)) (hw : w = ⟨off, sec, [d0, d1, d2, d3], [m0, m1, m2, m3]⟩) (hi : w'.is 4 sec)
    (ha : args = renL (rn [0, 1, 2, 3, 4, 5, 6, 7, 8, 9, 10] ((Wd.mk off sec [d0, d1, d2, d3] [m0, m1, m2, m3]).H ++ E).length) bs) (hv : ren (rn [0, 1, 2, 3, 4, 5, 6, 7, 8, 9, 10] ((Wd.mk off sec [d0, d1, d2, d3] [m0, m1, m2, m3]).H ++ E).length) v = v)
    (k : ∀ (o : Bool) (x0 x1 x2 x3 : List ByteArray) (y0 y1 y2 y3 : Mp), w' = ⟨o, sec, [x0, x1, x2, x3], [y0, y1, y2, y3]⟩ → K v ((Wd.mk o sec [x0, x1, x2, x3] [y0, y1, y2, y3]).H ++ E)) :
    ACalls P g args ((Wd.mk off sec [d0, d1, d2, d3] [m0, m1, m2, m3]).H ++ E) (panK K Kp) := by
  subst hw
  obtain ⟨o, x0, x1, x2, x3, y0, y1, y2, y3, rfl⟩ := tell_4 hi
  exact callH h [0, 1, 2, 3, 4, 5, 6, 7, 8, 9, 10] ha ⟨.inl rfl, .inl rfl, .inl rfl, oS rfl, oS rfl, oS rfl, oS rfl, oM rfl, oM rfl, oM rfl, oM rfl, True.intro⟩ rfl hv (by unfold Wd.H merge; simp only [List.map_cons, List.map_nil, List.cons_append, List.nil_append, renH, renO_str, renO_mp]; exact Eq.trans (List.append_nil _) rfl) (k o x0 x1 x2 x3 y0 y1 y2 y3 rfl)
theorem callN_4 {P : Program} {g : FuncId} {bs args : List AV} {v : AV} {w' : Wd} {sec : Nat} {K : AV → Heap → Prop} {Kp : Value → Heap → Prop} (h : ACalls P g bs [] (RetH v w'.H)) (hi : w'.is 4 sec)
    (ha : args = renL (rn [] 0) bs) (hv : ren (rn [] 0) v = v)
    (k : ∀ (o : Bool) (x0 x1 x2 x3 : List ByteArray) (y0 y1 y2 y3 : Mp), w' = ⟨o, sec, [x0, x1, x2, x3], [y0, y1, y2, y3]⟩ → K v (Wd.mk o sec [x0, x1, x2, x3] [y0, y1, y2, y3]).H) :
    ACalls P g args [] (panK K Kp) := by
  obtain ⟨o, x0, x1, x2, x3, y0, y1, y2, y3, rfl⟩ := tell_4 hi
  exact callH h [] ha True.intro rfl hv (by unfold Wd.H merge; simp only [List.map_cons, List.map_nil, List.cons_append, List.nil_append, renH, renO_str, renO_mp]; rfl) (k o x0 x1 x2 x3 y0 y1 y2 y3 rfl)

theorem callU_4 {P : Program} {g : FuncId} {bs args : List AV} {v : AV} {w w' : Wd} {off o : Bool} {sec : Nat} {d0 d1 d2 d3 x0 x1 x2 x3 : List ByteArray} {m0 m1 m2 m3 y0 y1 y2 y3 : Mp} {E : Heap} {K : AV → Heap → Prop} {Kp : Value → Heap → Prop} (h : ACalls P g bs w.H (RetH v w'.H)) (hw : w = ⟨off, sec, [d0, d1, d2, d3], [m0, m1, m2, m3]⟩) (hw' : w' = ⟨o, sec, [x0, x1, x2, x3], [y0, y1, y2, y3]⟩) (hi : w'.is 4 sec)
    (ha : args = renL (rn [0, 1, 2, 3, 4, 5, 6, 7, 8, 9, 10] ((Wd.mk off sec [d0, d1, d2, d3] [m0, m1, m2, m3]).H ++ E).length) bs) (hv : ren (rn [0, 1, 2, 3, 4, 5, 6, 7, 8, 9, 10] ((Wd.mk off sec [d0, d1, d2, d3] [m0, m1, m2, m3]).H ++ E).length) v = v)
    (k : K v ((Wd.mk o sec [x0, x1, x2, x3] [y0, y1, y2, y3]).H ++ E)) :
    ACalls P g args ((Wd.mk off sec [d0, d1, d2, d3] [m0, m1, m2, m3]).H ++ E) (panK K Kp) := by
  refine callT_4 h hw hi ha hv (fun o' x0' x1' x2' x3' y0' y1' y2' y3' e => ?_)
  cases hw'.symm.trans e
  exact k

theorem tell_5 {w : Wd} {sec : Nat} (h : w.is 5 sec) : ∃ (o : Bool) (x0 x1 x2 x3 x4 : List ByteArray) (y0 y1 y2 y3 y4 : Mp), w = ⟨o, sec, [x0, x1, x2, x3, x4], [y0, y1, y2, y3, y4]⟩ := by
  obtain ⟨o, s, D, M⟩ := w
  have h1 := h.n
  have h2 := h.s
  have h3 := h.ok.len
  dsimp only at h1 h2 h3
  subst h2
  match D, h1, M, h3 with
  | [x0, x1, x2, x3, x4], _, [y0, y1, y2, y3, y4], _ => exact ⟨o, x0, x1, x2, x3, x4, y0, y1, y2, y3, y4, rfl⟩
set_option maxHeartbeats 4000000 in
theorem callT_5 {P : Program} {g : FuncId} {bs args : List AV} {v : AV} {w w' : Wd} {off : Bool} {sec : Nat} {d0 d1 d2 d3 d4 : List ByteArray} {m0 m1 m2 m3 m4 : Mp} {E : Heap} {K : AV → Heap → Prop} {Kp : Value → Heap → Prop} (h : ACalls P g bs w.H (RetH v w'.H)) (hw : w = ⟨off, sec, [d0, d1, d2, d3, d4], [m0, m1, m2, m3, m4]⟩) (hi : w'.is 5 sec)
    (ha : args = renL (rn [0, 1, 2, 3, 4, 5, 6, 7, 8, 9, 10, 11, 12] ((Wd.mk off sec [d0, d1, d2, d3, d4] [m0, m1, m2, m3, m4]).H ++ E).length) bs) (hv : ren (rn [0, 1, 2, 3, 4, 5, 6, 7, 8, 9, 10, 11, 12] ((Wd.mk off sec [d0, d1, d2, d3, d4] [m0, m1, m2, m3, m4]).H ++ E).length) v = v)
    (k : ∀ (o : Bool) (x0 x1 x2 x3 x4 : List ByteArray) (y0 y1 y2 y3 y4 : Mp), w' = ⟨o, sec, [x0, x1, x2, x3, x4], [y0, y1, y2, y3, y4]⟩ → K v ((Wd.mk o sec [x0, x1, x2, x3, x4] [y0, y1, y2, y3, y4]).H ++ E)) :
    ACalls P g args ((Wd.mk off sec [d0, d1, d2, d3, d4] [m0, m1, m2, m3, m4]).H ++ E) (panK K Kp) := by
  subst hw
  obtain ⟨o, x0, x1, x2, x3, x4, y0, y1, y2, y3, y4, rfl⟩ := tell_5 hi
  exact callH h [0, 1, 2, 3, 4, 5, 6, 7, 8, 9, 10, 11, 12] ha ⟨.inl rfl, .inl rfl, .inl rfl, oS rfl, oS rfl, oS rfl, oS rfl, oS rfl, oM rfl, oM rfl, oM rfl, oM rfl, oM rfl, True.intro⟩ rfl hv (by unfold Wd.H merge; simp only [List.map_cons, List.map_nil, List.cons_append, List.nil_append, renH, renO_str, renO_mp]; exact Eq.trans (List.append_nil _) rfl) (k o x0 x1 x2 x3 x4 y0 y1 y2 y3 y4 rfl)
theorem callN_5 {P : Program} {g : FuncId} {bs args : List AV} {v : AV} {w' : Wd} {sec : Nat} {K : AV → Heap → Prop} {Kp : Value → Heap → Prop} (h : ACalls P g bs [] (RetH v w'.H)) (hi : w'.is 5 sec)
    (ha : args = renL (rn [] 0) bs) (hv : ren (rn [] 0) v = v)
    (k : ∀ (o : Bool) (x0 x1 x2 x3 x4 : List ByteArray) (y0 y1 y2 y3 y4 : Mp), w' = ⟨o, sec, [x0, x1, x2, x3, x4], [y0, y1, y2, y3, y4]⟩ → K v (Wd.mk o sec [x0, x1, x2, x3, x4] [y0, y1, y2, y3, y4]).H) :
    ACalls P g args [] (panK K Kp) := by
  obtain ⟨o, x0, x1, x2, x3, x4, y0, y1, y2, y3, y4, rfl⟩ := tell_5 hi
  exact callH h [] ha True.intro rfl hv (by unfold Wd.H merge; simp only [List.map_cons, List.map_nil, List.cons_append, List.nil_append, renH, renO_str, renO_mp]; rfl) (k o x0 x1 x2 x3 x4 y0 y1 y2 y3 y4 rfl)

set_option maxHeartbeats 4000000 in
theorem callU_5 {P : Program} {g : FuncId} {bs args : List AV} {v : AV} {w w' : Wd} {off o : Bool} {sec : Nat} {d0 d1 d2 d3 d4 x0 x1 x2 x3 x4 : List ByteArray} {m0 m1 m2 m3 m4 y0 y1 y2 y3 y4 : Mp} {E : Heap} {K : AV → Heap → Prop} {Kp : Value → Heap → Prop} (h : ACalls P g bs w.H (RetH v w'.H)) (hw : w = ⟨off, sec, [d0, d1, d2, d3, d4], [m0, m1, m2, m3, m4]⟩) (hw' : w' = ⟨o, sec, [x0, x1, x2, x3, x4], [y0, y1, y2, y3, y4]⟩) (hi : w'.is 5 sec)
    (ha : args = renL (rn [0, 1, 2, 3, 4, 5, 6, 7, 8, 9, 10, 11, 12] ((Wd.mk off sec [d0, d1, d2, d3, d4] [m0, m1, m2, m3, m4]).H ++ E).length) bs) (hv : ren (rn [0, 1, 2, 3, 4, 5, 6, 7, 8, 9, 10, 11, 12] ((Wd.mk off sec [d0, d1, d2, d3, d4] [m0, m1, m2, m3, m4]).H ++ E).length) v = v)
    (k : K v ((Wd.mk o sec [x0, x1, x2, x3, x4] [y0, y1, y2, y3, y4]).H ++ E)) :
    ACalls P g args ((Wd.mk off sec [d0, d1, d2, d3, d4] [m0, m1, m2, m3, m4]).H ++ E) (panK K Kp) := by
  refine callT_5 h hw hi ha hv (fun o' x0' x1' x2' x3' x4' y0' y1' y2' y3' y4' e => ?_)
  cases hw'.symm.trans e
  exact k

theorem tell_6 {w : Wd} {sec : Nat} (h : w.is 6 sec) : ∃ (o : Bool) (x0 x1 x2 x3 x4 x5 : List ByteArray) (y0 y1 y2 y3 y4 y5 : Mp), w = ⟨o, sec, [x0, x1, x2, x3, x4, x5], [y0, y1, y2, y3, y4, y5]⟩ := by
  obtain ⟨o, s, D, M⟩ := w
  have h1 := h.n
  have h2 := h.s
  have h3 := h.ok.len
  dsimp only at h1 h2 h3
  subst h2
  match D, h1, M, h3 with
  | [x0, x1, x2, x3, x4, x5], _, [y0, y1, y2, y3, y4, y5], _ => exact ⟨o, x0, x1, x2, x3, x4, x5, y0, y1, y2, y3, y4, y5, rfl⟩
set_option maxHeartbeats 4000000 in
theorem callT_6 {P : Program} {g : FuncId} {bs args : List AV} {v : AV} {w w' : Wd} {off : Bool} {sec : Nat} {d0 d1 d2 d3 d4 d5 : List ByteArray} {m0 m1 m2 m3 m4 m5 : Mp} {E : Heap} {K : AV → Heap → Prop} {Kp : Value → Heap → Prop} (h : ACalls P g bs w.H (RetH v w'.H)) (hw : w = ⟨off, sec, [d0, d1, d2, d3, d4, d5], [m0, m1, m2, m3, m4, m5]⟩) (hi : w'.is 6 sec)
    (ha : args = renL (rn [0, 1, 2, 3, 4, 5, 6, 7, 8, 9, 10, 11, 12, 13, 14] ((Wd.mk off sec [d0, d1, d2, d3, d4, d5] [m0, m1, m2, m3, m4, m5]).H ++ E).length) bs) (hv : ren (rn [0, 1, 2, 3, 4, 5, 6, 7, 8, 9, 10, 11, 12, 13, 14] ((Wd.mk off sec [d0, d1, d2, d3, d4, d5] [m0, m1, m2, m3, m4, m5]).H ++ E).length) v = v)
    (k : ∀ (o : Bool) (x0 x1 x2 x3 x4 x5 : List ByteArray) (y0 y1 y2 y3 y4 y5 : Mp), w' = ⟨o, sec, [x0, x1, x2, x3, x4, x5], [y0, y1, y2, y3, y4, y5]⟩ → K v ((Wd.mk o sec [x0, x1, x2, x3, x4, x5] [y0, y1, y2, y3, y4, y5]).H ++ E)) :
    ACalls P g args ((Wd.mk off sec [d0, d1, d2, d3, d4, d5] [m0, m1, m2, m3, m4, m5]).H ++ E) (panK K Kp) := by
  subst hw
  obtain ⟨o, x0, x1, x2, x3, x4, x5, y0, y1, y2, y3, y4, y5, rfl⟩ := tell_6 hi
  exact callH h [0, 1, 2, 3, 4, 5, 6, 7, 8, 9, 10, 11, 12, 13, 14] ha ⟨.inl rfl, .inl rfl, .inl rfl, oS rfl, oS rfl, oS rfl, oS rfl, oS rfl, oS rfl, oM rfl, oM rfl, oM rfl, oM rfl, oM rfl, oM rfl, True.intro⟩ rfl hv (by unfold Wd.H merge; simp only [List.map_cons, List.map_nil, List.cons_append, List.nil_append, renH, renO_str, renO_mp]; exact Eq.trans (List.append_nil _) rfl) (k o x0 x1 x2 x3 x4 x5 y0 y1 y2 y3 y4 y5 rfl)
theorem callN_6 {P : Program} {g : FuncId} {bs args : List AV} {v : AV} {w' : Wd} {sec : Nat} {K : AV → Heap → Prop} {Kp : Value → Heap → Prop} (h : ACalls P g bs [] (RetH v w'.H)) (hi : w'.is 6 sec)
    (ha : args = renL (rn [] 0) bs) (hv : ren (rn [] 0) v = v)
    (k : ∀ (o : Bool) (x0 x1 x2 x3 x4 x5 : List ByteArray) (y0 y1 y2 y3 y4 y5 : Mp), w' = ⟨o, sec, [x0, x1, x2, x3, x4, x5], [y0, y1, y2, y3, y4, y5]⟩ → K v (Wd.mk o sec [x0, x1, x2, x3, x4, x5] [y0, y1, y2, y3, y4, y5]).H) :
    ACalls P g args [] (panK K Kp) := by
  obtain ⟨o, x0, x1, x2, x3, x4, x5, y0, y1, y2, y3, y4, y5, rfl⟩ := tell_6 hi
  exact callH h [] ha True.intro rfl hv (by unfold Wd.H merge; simp only [List.map_cons, List.map_nil, List.cons_append, List.nil_append, renH, renO_str, renO_mp]; rfl) (k o x0 x1 x2 x3 x4 x5 y0 y1 y2 y3 y4 y5 rfl)

set_option maxHeartbeats 4000000 in
theorem callU_6 {P : Program} {g : FuncId} {bs args : List AV} {v : AV} {w w' : Wd} {off o : Bool} {sec : Nat} {d0 d1 d2 d3 d4 d5 x0 x1 x2 x3 x4 x5 : List ByteArray} {m0 m1 m2 m3 m4 m5 y0 y1 y2 y3 y4 y5 : Mp} {E : Heap} {K : AV → Heap → Prop} {Kp : Value → Heap → Prop} (h : ACalls P g bs w.H (RetH v w'.H)) (hw : w = ⟨off, sec, [d0, d1, d2, d3, d4, d5], [m0, m1, m2, m3, m4, m5]⟩) (hw' : w' = ⟨o, sec, [x0, x1, x2, x3, x4, x5], [y0, y1, y2, y3, y4, y5]⟩) (hi : w'.is 6 sec)
    (ha : args = renL (rn [0, 1, 2, 3, 4, 5, 6, 7, 8, 9, 10, 11, 12, 13, 14] ((Wd.mk off sec [d0, d1, d2, d3, d4, d5] [m0, m1, m2, m3, m4, m5]).H ++ E).length) bs) (hv : ren (rn [0, 1, 2, 3, 4, 5, 6, 7, 8, 9, 10, 11, 12, 13, 14] ((Wd.mk off sec [d0, d1, d2, d3, d4, d5] [m0, m1, m2, m3, m4, m5]).H ++ E).length) v = v)
    (k : K v ((Wd.mk o sec [x0, x1, x2, x3, x4, x5] [y0, y1, y2, y3, y4, y5]).H ++ E)) :
    ACalls P g args ((Wd.mk off sec [d0, d1, d2, d3, d4, d5] [m0, m1, m2, m3, m4, m5]).H ++ E) (panK K Kp) := by
  refine callT_6 h hw hi ha hv (fun o' x0' x1' x2' x3' x4' x5' y0' y1' y2' y3' y4' y5' e => ?_)
  cases hw'.symm.trans e
  exact k

theorem tell_7 {w : Wd} {sec : Nat} (h : w.is 7 sec) : ∃ (o : Bool) (x0 x1 x2 x3 x4 x5 x6 : List ByteArray) (y0 y1 y2 y3 y4 y5 y6 : Mp), w = ⟨o, sec, [x0, x1, x2, x3, x4, x5, x6], [y0, y1, y2, y3, y4, y5, y6]⟩ := by
  obtain ⟨o, s, D, M⟩ := w
  have h1 := h.n
  have h2 := h.s
  have h3 := h.ok.len
  dsimp only at h1 h2 h3
  subst h2
  match D, h1, M, h3 with
  | [x0, x1, x2, x3, x4, x5, x6], _, [y0, y1, y2, y3, y4, y5, y6], _ => exact ⟨o, x0, x1, x2, x3, x4, x5, x6, y0, y1, y2, y3, y4, y5, y6, rfl⟩
set_option maxHeartbeats 4000000 in
theorem callT_7 {P : Program} {g : FuncId} {bs args : List AV} {v : AV} {w w' : Wd} {off : Bool} {sec : Nat} {d0 d1 d2 d3 d4 d5 d6 : List ByteArray} {m0 m1 m2 m3 m4 m5 m6 : Mp} {E : Heap} {K : AV → Heap → Prop} {Kp : Value → Heap → Prop} (h : ACalls P g bs w.H (RetH v w'.H)) (hw : w = ⟨off, sec, [d0, d1, d2, d3, d4, d5, d6], [m0, m1, m2, m3, m4, m5, m6]⟩) (hi : w'.is 7 sec)
    (ha : args = renL (rn [0, 1, 2, 3, 4, 5, 6, 7, 8, 9, 10, 11, 12, 13, 14, 15, 16] ((Wd.mk off sec [d0, d1, d2, d3, d4, d5, d6] [m0, m1, m2, m3, m4, m5, m6]).H ++ E).length) bs) (hv : ren (rn [0, 1, 2, 3, 4, 5, 6, 7, 8, 9, 10, 11, 12, 13, 14, 15, 16] ((Wd.mk off sec [d0, d1, d2, d3, d4, d5, d6] [m0, m1, m2, m3, m4, m5, m6]).H ++ E).length) v = v)
    (k : ∀ (o : Bool) (x0 x1 x2 x3 x4 x5 x6 : List ByteArray) (y0 y1 y2 y3 y4 y5 y6 : Mp), w' = ⟨o, sec, [x0, x1, x2, x3, x4, x5, x6], [y0, y1, y2, y3, y4, y5, y6]⟩ → K v ((Wd.mk o sec [x0, x1, x2, x3, x4, x5, x6] [y0, y1, y2, y3, y4, y5, y6]).H ++ E)) :
    ACalls P g args ((Wd.mk off sec [d0, d1, d2, d3, d4, d5, d6] [m0, m1, m2, m3, m4, m5, m6]).H ++ E) (panK K Kp) := by
  subst hw
  obtain ⟨o, x0, x1, x2, x3, x4, x5, x6, y0, y1, y2, y3, y4, y5, y6, rfl⟩ := tell_7 hi
  exact callH h [0, 1, 2, 3, 4, 5, 6, 7, 8, 9, 10, 11, 12, 13, 14, 15, 16] ha ⟨.inl rfl, .inl rfl, .inl rfl, oS rfl, oS rfl, oS rfl, oS rfl, oS rfl, oS rfl, oS rfl, oM rfl, oM rfl, oM rfl, oM rfl, oM rfl, oM rfl, oM rfl, True.intro⟩ rfl hv (by unfold Wd.H merge; simp only [List.map_cons, List.map_nil, List.cons_append, List.nil_append, renH, renO_str, renO_mp]; exact Eq.trans (List.append_nil _) rfl) (k o x0 x1 x2 x3 x4 x5 x6 y0 y1 y2 y3 y4 y5 y6 rfl)
theorem callN_7 {P : Program} {g : FuncId} {bs args : List AV} {v : AV} {w' : Wd} {sec : Nat} {K : AV → Heap → Prop} {Kp : Value → Heap → Prop} (h : ACalls P g bs [] (RetH v w'.H)) (hi : w'.is 7 sec)
    (ha : args = renL (rn [] 0) bs) (hv : ren (rn [] 0) v = v)
    (k : ∀ (o : Bool) (x0 x1 x2 x3 x4 x5 x6 : List ByteArray) (y0 y1 y2 y3 y4 y5 y6 : Mp), w' = ⟨o, sec, [x0, x1, x2, x3, x4, x5, x6], [y0, y1, y2, y3, y4, y5, y6]⟩ → K v (Wd.mk o sec [x0, x1, x2, x3, x4, x5, x6] [y0, y1, y2, y3, y4, y5, y6]).H) :
    ACalls P g args [] (panK K Kp) := by
  obtain ⟨o, x0, x1, x2, x3, x4, x5, x6, y0, y1, y2, y3, y4, y5, y6, rfl⟩ := tell_7 hi
  exact callH h [] ha True.intro rfl hv (by unfold Wd.H merge; simp only [List.map_cons, List.map_nil, List.cons_append, List.nil_append, renH, renO_str, renO_mp]; rfl) (k o x0 x1 x2 x3 x4 x5 x6 y0 y1 y2 y3 y4 y5 y6 rfl)

set_option maxHeartbeats 4000000 in
theorem callU_7 {P : Program} {g : FuncId} {bs args : List AV} {v : AV} {w w' : Wd} {off o : Bool} {sec : Nat} {d0 d1 d2 d3 d4 d5 d6 x0 x1 x2 x3 x4 x5 x6 : List ByteArray} {m0 m1 m2 m3 m4 m5 m6 y0 y1 y2 y3 y4 y5 y6 : Mp} {E : Heap} {K : AV → Heap → Prop} {Kp : Value → Heap → Prop} (h : ACalls P g bs w.H (RetH v w'.H)) (hw : w = ⟨off, sec, [d0, d1, d2, d3, d4, d5, d6], [m0, m1, m2, m3, m4, m5, m6]⟩) (hw' : w' = ⟨o, sec, [x0, x1, x2, x3, x4, x5, x6], [y0, y1, y2, y3, y4, y5, y6]⟩) (hi : w'.is 7 sec)
    (ha : args = renL (rn [0, 1, 2, 3, 4, 5, 6, 7, 8, 9, 10, 11, 12, 13, 14, 15, 16] ((Wd.mk off sec [d0, d1, d2, d3, d4, d5, d6] [m0, m1, m2, m3, m4, m5, m6]).H ++ E).length) bs) (hv : ren (rn [0, 1, 2, 3, 4, 5, 6, 7, 8, 9, 10, 11, 12, 13, 14, 15, 16] ((Wd.mk off sec [d0, d1, d2, d3, d4, d5, d6] [m0, m1, m2, m3, m4, m5, m6]).H ++ E).length) v = v)
    (k : K v ((Wd.mk o sec [x0, x1, x2, x3, x4, x5, x6] [y0, y1, y2, y3, y4, y5, y6]).H ++ E)) :
    ACalls P g args ((Wd.mk off sec [d0, d1, d2, d3, d4, d5, d6] [m0, m1, m2, m3, m4, m5, m6]).H ++ E) (panK K Kp) := by
  refine callT_7 h hw hi ha hv (fun o' x0' x1' x2' x3' x4' x5' x6' y0' y1' y2' y3' y4' y5' y6' e => ?_)
  cases hw'.symm.trans e
  exact k

theorem tell_8 {w : Wd} {sec : Nat} (h : w.is 8 sec) : ∃ (o : Bool) (x0 x1 x2 x3 x4 x5 x6 x7 : List ByteArray) (y0 y1 y2 y3 y4 y5 y6 y7 : Mp), w = ⟨o, sec, [x0, x1, x2, x3, x4, x5, x6, x7], [y0, y1, y2, y3, y4, y5, y6, y7]⟩ := by
  obtain ⟨o, s, D, M⟩ := w
  have h1 := h.n
  have h2 := h.s
  have h3 := h.ok.len
  dsimp only at h1 h2 h3
  subst h2
  match D, h1, M, h3 with
  | [x0, x1, x2, x3, x4, x5, x6, x7], _, [y0, y1, y2, y3, y4, y5, y6, y7], _ => exact ⟨o, x0, x1, x2, x3, x4, x5, x6, x7, y0, y1, y2, y3, y4, y5, y6, y7, rfl⟩
set_option maxHeartbeats 4000000 in
theorem callT_8 {P : Program} {g : FuncId} {bs args : List AV} {v : AV} {w w' : Wd} {off : Bool} {sec : Nat} {d0 d1 d2 d3 d4 d5 d6 d7 : List ByteArray} {m0 m1 m2 m3 m4 m5 m6 m7 : Mp} {E : Heap} {K : AV → Heap → Prop} {Kp : Value → Heap → Prop} (h : ACalls P g bs w.H (RetH v w'.H)) (hw : w = ⟨off, sec, [d0, d1, d2, d3, d4, d5, d6, d7], [m0, m1, m2, m3, m4, m5, m6, m7]⟩) (hi : w'.is 8 sec)
    (ha : args = renL (rn [0, 1, 2, 3, 4, 5, 6, 7, 8, 9, 10, 11, 12, 13, 14, 15, 16, 17, 18] ((Wd.mk off sec [d0, d1, d2, d3, d4, d5, d6, d7] [m0, m1, m2, m3, m4, m5, m6, m7]).H ++ E).length) bs) (hv : ren (rn [0, 1, 2, 3, 4, 5, 6, 7, 8, 9, 10, 11, 12, 13, 14, 15, 16, 17, 18] ((Wd.mk off sec [d0, d1, d2, d3, d4, d5, d6, d7] [m0, m1, m2, m3, m4, m5, m6, m7]).H ++ E).length) v = v)
    (k : ∀ (o : Bool) (x0 x1 x2 x3 x4 x5 x6 x7 : List ByteArray) (y0 y1 y2 y3 y4 y5 y6 y7 : Mp), w' = ⟨o, sec, [x0, x1, x2, x3, x4, x5, x6, x7], [y0, y1, y2, y3, y4, y5, y6, y7]⟩ → K v ((Wd.mk o sec [x0, x1, x2, x3, x4, x5, x6, x7] [y0, y1, y2, y3, y4, y5, y6, y7]).H ++ E)) :
    ACalls P g args ((Wd.mk off sec [d0, d1, d2, d3, d4, d5, d6, d7] [m0, m1, m2, m3, m4, m5, m6, m7]).H ++ E) (panK K Kp) := by
  subst hw
  obtain ⟨o, x0, x1, x2, x3, x4, x5, x6, x7, y0, y1, y2, y3, y4, y5, y6, y7, rfl⟩ := tell_8 hi
  exact callH h [0, 1, 2, 3, 4, 5, 6, 7, 8, 9, 10, 11, 12, 13, 14, 15, 16, 17, 18] ha ⟨.inl rfl, .inl rfl, .inl rfl, oS rfl, oS rfl, oS rfl, oS rfl, oS rfl, oS rfl, oS rfl, oS rfl, oM rfl, oM rfl, oM rfl, oM rfl, oM rfl, oM rfl, oM rfl, oM rfl, True.intro⟩ rfl hv (by unfold Wd.H merge; simp only [List.map_cons, List.map_nil, List.cons_append, List.nil_append, renH, renO_str, renO_mp]; exact Eq.trans (List.append_nil _) rfl) (k o x0 x1 x2 x3 x4 x5 x6 x7 y0 y1 y2 y3 y4 y5 y6 y7 rfl)
theorem callN_8 {P : Program} {g : FuncId} {bs args : List AV} {v : AV} {w' : Wd} {sec : Nat} {K : AV → Heap → Prop} {Kp : Value → Heap → Prop} (h : ACalls P g bs [] (RetH v w'.H)) (hi : w'.is 8 sec)
    (ha : args = renL (rn [] 0) bs) (hv : ren (rn [] 0) v = v)
    (k : ∀ (o : Bool) (x0 x1 x2 x3 x4 x5 x6 x7 : List ByteArray) (y0 y1 y2 y3 y4 y5 y6 y7 : Mp), w' = ⟨o, sec, [x0, x1, x2, x3, x4, x5, x6, x7], [y0, y1, y2, y3, y4, y5, y6, y7]⟩ → K v (Wd.mk o sec [x0, x1, x2, x3, x4, x5, x6, x7] [y0, y1, y2, y3, y4, y5, y6, y7]).H) :
    ACalls P g args [] (panK K Kp) := by
  obtain ⟨o, x0, x1, x2, x3, x4, x5, x6, x7, y0, y1, y2, y3, y4, y5, y6, y7, rfl⟩ := tell_8 hi
  exact callH h [] ha True.intro rfl hv (by unfold Wd.H merge; simp only [List.map_cons, List.map_nil, List.cons_append, List.nil_append, renH, renO_str, renO_mp]; rfl) (k o x0 x1 x2 x3 x4 x5 x6 x7 y0 y1 y2 y3 y4 y5 y6 y7 rfl)

set_option maxHeartbeats 4000000 in
theorem callU_8 {P : Program} {g : FuncId} {bs args : List AV} {v : AV} {w w' : Wd} {off o : Bool} {sec : Nat} {d0 d1 d2 d3 d4 d5 d6 d7 x0 x1 x2 x3 x4 x5 x6 x7 : List ByteArray} {m0 m1 m2 m3 m4 m5 m6 m7 y0 y1 y2 y3 y4 y5 y6 y7 : Mp} {E : Heap} {K : AV → Heap → Prop} {Kp : Value → Heap → Prop} (h : ACalls P g bs w.H (RetH v w'.H)) (hw : w = ⟨off, sec, [d0, d1, d2, d3, d4, d5, d6, d7], [m0, m1, m2, m3, m4, m5, m6, m7]⟩) (hw' : w' = ⟨o, sec, [x0, x1, x2, x3, x4, x5, x6, x7], [y0, y1, y2, y3, y4, y5, y6, y7]⟩) (hi : w'.is 8 sec)
    (ha : args = renL (rn [0, 1, 2, 3, 4, 5, 6, 7, 8, 9, 10, 11, 12, 13, 14, 15, 16, 17, 18] ((Wd.mk off sec [d0, d1, d2, d3, d4, d5, d6, d7] [m0, m1, m2, m3, m4, m5, m6, m7]).H ++ E).length) bs) (hv : ren (rn [0, 1, 2, 3, 4, 5, 6, 7, 8, 9, 10, 11, 12, 13, 14, 15, 16, 17, 18] ((Wd.mk off sec [d0, d1, d2, d3, d4, d5, d6, d7] [m0, m1, m2, m3, m4, m5, m6, m7]).H ++ E).length) v = v)
    (k : K v ((Wd.mk o sec [x0, x1, x2, x3, x4, x5, x6, x7] [y0, y1, y2, y3, y4, y5, y6, y7]).H ++ E)) :
    ACalls P g args ((Wd.mk off sec [d0, d1, d2, d3, d4, d5, d6, d7] [m0, m1, m2, m3, m4, m5, m6, m7]).H ++ E) (panK K Kp) := by
  refine callT_8 h hw hi ha hv (fun o' x0' x1' x2' x3' x4' x5' x6' x7' y0' y1' y2' y3' y4' y5' y6' y7' e => ?_)
  cases hw'.symm.trans e
  exact k

end Go.Proofs.Ytpkbdlocmjgmbaa.A
