/- extent: maps from whole numbers to texts, as the machine tells them. Plain. -/
import Derived.Test.YthbncljlclcecaaDoorBb
namespace Go.Proofs.YthbncljlclcecaaDoor.A
open Go
set_option linter.unusedVariables false
set_option linter.unusedSimpArgs false

/-- An entry: key, text, stamp. -/
abbrev En := Int × ByteArray × Nat
def ent (e : En) : Value × AV := (.int .i64 e.1, .tup [.sc (.int .i64 (e.2.2 : Nat)), str e.2.1])
def mpE (c : Nat) (L : List En) : List (Value × AV) := (.bool false, .sc (.int .i64 (c : Nat))) :: L.map ent
def getE (L : List En) (n : Int) : Option ByteArray :=
  match L with
  | [] => none
  | e :: L => if n = e.1 then some e.2.1 else getE L n
/-- Where a key stands. -/
def posE (L : List En) (n : Int) : Option Nat :=
  match L with
  | [] => none
  | e :: L => if n = e.1 then some 0 else (posE L n).map (· + 1)
theorem lookM_ent (n : Int) : ∀ L : List En, lookM .i64 n (L.map ent) = some (match posE L n, getE L n with
    | some i, some s => some (i, str s)
    | _, _ => none)
  | [] => rfl
  | e :: L => by
    rw [List.map_cons]
    unfold lookM ent
    simp only [decide_true, cond_true]
    by_cases h : n = e.1
    · simp only [posE, getE, h, decide_true, cond_true, if_true]
    · rw [decide_eq_false h, cond_false, show (fun e : En => (Value.int .i64 e.1, AV.tup [.sc (.int .i64 (e.2.2 : Nat)), str e.2.1])) = ent from rfl, lookM_ent n L]
      simp only [posE, getE, if_neg h]
      cases posE L n <;> cases getE L n <;> rfl
theorem posE_get (n : Int) : ∀ L : List En, (posE L n = none ↔ getE L n = none)
  | [] => by simp [posE, getE]
  | e :: L => by
    unfold posE getE
    by_cases h : n = e.1
    · simp [h]
    · simp only [if_neg h, Option.map_eq_none_iff]
      exact posE_get n L
theorem lookR_none {z : AV} {L : List En} {n : Int} (h : getE L n = none) : lookR z true .i64 n (L.map ent) = some (.tup [z, bo false]) := by
  unfold lookR
  rw [lookM_ent, (posE_get n L).2 h]
  rfl
theorem lookR_some {z : AV} {L : List En} {n : Int} {s : ByteArray} (h : getE L n = some s) : lookR z true .i64 n (L.map ent) = some (.tup [str s, bo true]) := by
  unfold lookR
  rw [lookM_ent]
  cases hp : posE L n with
  | none => rw [(posE_get n L).1 hp] at h; cases h
  | some i => rw [h]; rfl
/-- A map's state: the clock, the entries. -/
structure Mp where
  c : Nat
  L : List En
def Mp.E (m : Mp) : List (Value × AV) := mpE m.c m.L
structure Mp.ok (m : Mp) : Prop where
  lt : ∀ e ∈ m.L, e.2.2 < m.c
  st : (m.L.map (·.2.2)).Nodup
  ky : (m.L.map (·.1)).Nodup
def Mp.get (m : Mp) (n : Int) : Option ByteArray := getE m.L n
def Mp.put (m : Mp) (n : Int) (s : ByteArray) : Mp :=
  match posE m.L n with
  | some i => ⟨m.c, m.L.modify i fun e => (e.1, s, e.2.2)⟩
  | none => ⟨m.c + 1, m.L ++ [(n, s, m.c)]⟩
def Mp.clr (m : Mp) : Mp := ⟨m.c, []⟩
theorem ent_mod (s : ByteArray) : ∀ (L : List En) (i : Nat), (L.map ent).modify i (setE (str s)) = (L.modify i fun e => (e.1, s, e.2.2)).map ent
  | [], i => by simp
  | e :: L, 0 => by simp [ent, setE]
  | e :: L, i + 1 => by simp [ent_mod s L i]
theorem updM_ent (m : Mp) (n : Int) (s : ByteArray) : updM .i64 n (str s) (m.c : Nat) (m.L.map ent) = some (m.put n s).E := by
  unfold updM Mp.put Mp.E mpE
  rw [lookM_ent]
  cases hp : posE m.L n with
  | none =>
    simp only [List.map_append, List.map_cons, List.map_nil]
    rfl
  | some i =>
    cases hg : getE m.L n with
    | none => rw [(posE_get n m.L).2 hg] at hp; cases hp
    | some t =>
      simp only [ent_mod]
theorem getE_none {n : Int} : ∀ {L : List En}, getE L n = none ↔ ∀ e ∈ L, e.1 ≠ n
  | [] => by simp [getE]
  | e :: L => by
    unfold getE
    by_cases h : n = e.1
    · simp [h]
    · simp only [if_neg h, getE_none (L := L), List.mem_cons, forall_eq_or_imp]
      exact ⟨fun k => ⟨fun h' => h h'.symm, k⟩, fun k => k.2⟩
theorem mod_map {β : Type} (f : En → β) (s : ByteArray) (hf : ∀ e : En, f (e.1, s, e.2.2) = f e) : ∀ (L : List En) (i : Nat), (L.modify i fun e => (e.1, s, e.2.2)).map f = L.map f
  | [], i => by simp
  | e :: L, 0 => by simp [hf]
  | e :: L, i + 1 => by simp [mod_map f s hf L i]
theorem mput_ok (m : Mp) (h : m.ok) (n : Int) (s : ByteArray) : (m.put n s).ok := by
  unfold Mp.put
  cases hp : posE m.L n with
  | none =>
    refine ⟨fun e he => ?_, ?_, ?_⟩
    · simp only [List.mem_append, List.mem_singleton] at he
      rcases he with he | rfl
      · exact Nat.lt_succ_of_lt (h.lt e he)
      · exact Nat.lt_succ_self _
    · simp only [List.map_append, List.map_cons, List.map_nil]
      refine List.nodup_append.2 ⟨h.st, by simp, fun a ha b hb => ?_⟩
      simp only [List.mem_singleton] at hb
      subst hb
      obtain ⟨e, he, rfl⟩ := List.mem_map.1 ha
      exact Nat.ne_of_lt (h.lt e he)
    · simp only [List.map_append, List.map_cons, List.map_nil]
      refine List.nodup_append.2 ⟨h.ky, by simp, fun a ha b hb => ?_⟩
      obtain rfl : b = n := List.mem_singleton.1 hb
      obtain ⟨e, he, rfl⟩ := List.mem_map.1 ha
      exact getE_none.1 ((posE_get _ m.L).1 hp) e he
  | some i =>
    refine ⟨fun e he => ?_, ?_, ?_⟩
    · have : e.2.2 ∈ (m.L.modify i fun e => (e.1, s, e.2.2)).map (·.2.2) := List.mem_map_of_mem he
      rw [mod_map (·.2.2) s (fun _ => rfl)] at this
      obtain ⟨x, hx, hxe⟩ := List.mem_map.1 this
      rw [← hxe]
      exact h.lt x hx
    · simp only
      rw [mod_map (·.2.2) s (fun _ => rfl)]
      exact h.st
    · simp only
      rw [mod_map (·.1) s (fun _ => rfl)]
      exact h.ky
theorem mclr_ok (m : Mp) : m.clr.ok := ⟨(fun e he => by cases he), List.nodup_nil, List.nodup_nil⟩
/-- A walk through a map: the entries that have come. -/
def seenE (S : List En) : List (Value × AV) := S.map fun e => (.int .i64 (e.2.2 : Nat), undefA)
theorem st_inj {x y : En} : ∀ {L : List En}, (L.map (·.2.2)).Nodup → x ∈ L → y ∈ L → x.2.2 = y.2.2 → x = y
  | [], _, hx, _, _ => by cases hx
  | z :: L, hd, hx, hy, hxy => by
    rw [List.map_cons, List.nodup_cons] at hd
    cases hx with
    | head =>
      cases hy with
      | head => rfl
      | tail _ hy => exact absurd (hxy ▸ List.mem_map_of_mem (f := fun e : En => e.2.2) hy) hd.1
    | tail _ hx =>
      cases hy with
      | head => exact absurd (hxy ▸ List.mem_map_of_mem (f := fun e : En => e.2.2) hx) hd.1
      | tail _ hy => exact st_inj hd.2 hx hy hxy
theorem nextK_of {m : Mp} (h : m.ok) {S : List En} (hS : ∀ e ∈ S, e ∈ m.L) {e : Prop} {s : Value → Int → AV → Prop} (he : (∀ x ∈ m.L, x ∈ S) → e) (hs : ∀ x ∈ m.L, x ∉ S → s (.int .i64 x.1) (x.2.2 : Nat) (str x.2.1)) :
    NextK (m.L.map ent) (seenE S) (m.c : Nat) (m.c : Nat) e s := by
  have hst : ∀ x ∈ m.L, ∀ y ∈ m.L, x.2.2 = y.2.2 → x = y := fun x hx y hy hxy => by
    exact st_inj h.st hx hy hxy
  refine ⟨⟨Int.le_refl _, fun x hx => ?_⟩, fun hall => he fun x hx => ?_, fun k n v hk hn => ?_⟩
  · obtain ⟨y, hy, rfl⟩ := List.mem_map.1 hx
    exact ⟨_, _, rfl, by have := h.lt y hy; omega⟩
  · obtain ⟨a, ha⟩ := hall _ _ _ (List.mem_map_of_mem (f := ent) hx)
    obtain ⟨y, hy, hye⟩ := List.mem_map.1 ha
    simp only [Prod.mk.injEq, Value.int.injEq, true_and] at hye
    have : y = x := hst y (hS y hy) x hx (by omega)
    exact this ▸ hy
  · obtain ⟨y, hy, hye⟩ := List.mem_map.1 hk
    unfold ent at hye
    simp only [Prod.mk.injEq, AV.tup.injEq, List.cons.injEq, AV.sc.injEq, Value.int.injEq, true_and, and_true] at hye
    obtain ⟨rfl, rfl, rfl⟩ := hye
    exact hs y hy fun hyS => hn undefA (List.mem_map_of_mem (f := fun e : En => (Value.int .i64 (e.2.2 : Nat), undefA)) hyS)
theorem findS_ent {L : List En} {x : En} (hx : x ∈ L) (hst : (L.map (·.2.2)).Nodup) : findS (x.2.2 : Nat) (L.map ent) = some (.tup [.sc (.int .i64 x.1), str x.2.1]) := by
  induction L with
  | nil => cases hx
  | cons z L ih =>
    rw [List.map_cons, List.nodup_cons] at hst
    rw [List.map_cons]
    unfold findS ent
    simp only
    cases hx with
    | head => rw [decide_eq_true rfl, cond_true]
    | tail _ hx =>
      have hne : ¬ ((z.2.2 : Nat) : Int) = ((x.2.2 : Nat) : Int) := fun h' => hst.1 (by rw [show z.2.2 = x.2.2 by omega]; exact List.mem_map_of_mem (f := fun e : En => e.2.2) hx)
      rw [decide_eq_false hne, cond_false]
      exact ih hx hst.2
theorem entM_ent {m : Mp} (h : m.ok) {S : List En} {x : En} (hx : x ∈ m.L) : entM (seenE S ++ [(.int .i64 (x.2.2 : Nat), undefA)]) (m.L.map ent) = some (.tup [.sc (.int .i64 x.1), str x.2.1]) := by
  unfold entM
  rw [List.getLast?_concat]
  exact findS_ent hx h.st
theorem seen_snoc (S : List En) (x : En) : seenE S ++ [(.int .i64 (x.2.2 : Nat), undefA)] = seenE (S ++ [x]) := by
  unfold seenE
  rw [List.map_append]
  rfl
theorem getE_mem {x : En} : ∀ {L : List En}, (L.map (·.1)).Nodup → x ∈ L → getE L x.1 = some x.2.1
  | [], _, hx => by cases hx
  | z :: L, hd, hx => by
    rw [List.map_cons, List.nodup_cons] at hd
    unfold getE
    cases hx with
    | head => rw [if_pos rfl]
    | tail _ hx =>
      rw [if_neg (fun h' : x.1 = z.1 => hd.1 (h' ▸ List.mem_map_of_mem (f := fun e : En => e.1) hx))]
      exact getE_mem hd.2 hx
end Go.Proofs.YthbncljlclcecaaDoor.A
