/- extent: the world as objects; Write. No condition. -/
import Derived.Test.YthbncljlclcecaaDoorXd
namespace Go.Proofs.YthbncljlclcecaaDoor.A
open Go
set_option linter.unusedVariables false
set_option linter.unusedSimpArgs false
set_option maxRecDepth 100000
set_option pp.maxSteps 600

/-- A world: is it off; sectors of each extent; what is dry; what is wet. -/
structure Wd where
  off : Bool
  sec : Nat
  D : List (List ByteArray)
  M : List Mp
def slcs (sec : Nat) : List (List ByteArray) → Nat → List AV
  | [], _ => []
  | _ :: D, k => .slc k 0 sec 1 :: slcs sec D (k + 1)
def mprs : List Mp → Nat → List AV
  | [], _ => []
  | _ :: M, k => .mapr k :: mprs M (k + 1)
def Wd.n (w : Wd) : Nat := w.D.length
def Wd.row (w : Wd) : List AV := [bo w.off, i64 (w.sec : Nat), .slc 1 0 w.D.length 1, .slc 2 0 w.M.length 1]
def Wd.H (w : Wd) : Heap := .row w.row :: .row (slcs w.sec w.D 3) :: .row (mprs w.M (3 + w.D.length)) :: (w.D.map (fun d => .row (d.map str)) ++ w.M.map (fun m => .mp m.E))
structure Wd.ok (w : Wd) : Prop where
  len : w.M.length = w.D.length
  le : w.D.length ≤ 8
  sec : ∀ d ∈ w.D, d.length = w.sec
  secle : w.sec ≤ 128
  mp : ∀ m ∈ w.M, m.ok
  ks : ∀ m ∈ w.M, ∀ e ∈ m.L, 0 ≤ e.1 ∧ e.1 < w.sec
theorem belowL_str (N : Nat) : ∀ d : List ByteArray, belowL N (d.map str) = true
  | [] => rfl
  | s :: d => by rw [List.map_cons, belowL, belowL_str N d]; rfl
theorem belowL_ent (N : Nat) : ∀ L : List En, belowL N ((L.map ent).map (·.2)) = true
  | [] => rfl
  | e :: L => by rw [List.map_cons, List.map_cons, belowL, belowL_ent N L]; rfl
theorem belowO_mp (N : Nat) (m : Mp) : belowO N (.mp m.E) = true := by
  show (A.below N (i64 (m.c : Nat)) && belowL N ((m.L.map ent).map (·.2))) = true
  rw [belowL_ent]
  rfl
theorem blt_of {a b : Nat} (h : a < b) : Nat.blt a b = true := by rw [Nat.blt_eq]; exact h
theorem belowL_slcs (sec N : Nat) : ∀ (D : List (List ByteArray)) (k : Nat), k + D.length ≤ N → belowL N (slcs sec D k) = true
  | [], _, _ => rfl
  | d :: D, k, h => by
    rw [List.length_cons] at h
    rw [slcs, belowL, belowL_slcs sec N D (k + 1) (by omega)]
    simp only [A.below, Bool.and_true]
    exact blt_of (by omega)
theorem belowL_mprs (N : Nat) : ∀ (M : List Mp) (k : Nat), k + M.length ≤ N → belowL N (mprs M k) = true
  | [], _, _ => rfl
  | d :: M, k, h => by
    rw [List.length_cons] at h
    rw [mprs, belowL, belowL_mprs N M (k + 1) (by omega)]
    simp only [A.below, Bool.and_true]
    exact blt_of (by omega)
theorem belowH_app (N : Nat) : ∀ (A B : Heap), belowH N A = true → belowH N B = true → belowH N (A ++ B) = true
  | [], _, _, h => h
  | o :: A, B, h1, h2 => by
    rw [belowH, Bool.and_eq_true] at h1
    rw [List.cons_append, belowH, belowH_app N A B h1.2 h2, h1.1]
    rfl
theorem belowH_map {α : Type} (N : Nat) (f : α → AObj) (h : ∀ x, belowO N (f x) = true) : ∀ l : List α, belowH N (l.map f) = true
  | [] => rfl
  | x :: l => by rw [List.map_cons, belowH, h x, belowH_map N f h l]; rfl
theorem Wd.below (w : Wd) : belowH w.H.length w.H = true := by
  have hl : w.H.length = 3 + w.D.length + w.M.length := by
    unfold Wd.H
    simp only [List.length_cons, List.length_append, List.length_map]
    omega
  rw [hl]
  unfold Wd.H
  have h1 := belowH_map (3 + w.D.length + w.M.length) (fun d : List ByteArray => AObj.row (d.map str)) (fun d => by rw [belowO]; exact belowL_str _ d) w.D
  have h2 := belowH_map (3 + w.D.length + w.M.length) (fun m : Mp => AObj.mp m.E) (fun m => belowO_mp _ m) w.M
  rw [belowH, belowH, belowH, belowH_app _ _ _ h1 h2]
  rw [belowO, belowO, belowO, belowL_slcs _ _ _ _ (by omega), belowL_mprs _ _ _ (by omega)]
  unfold Wd.row
  simp only [belowL, A.below, Bool.and_true, Bool.and_eq_true]
  exact ⟨rfl, rfl, blt_of (by omega), blt_of (by omega)⟩
end Go.Proofs.YthbncljlclcecaaDoor.A
