/- label: lists that rise, each once. No condition. -/
import Derived.Test.YtmfifbclldnpkaaLf
namespace Go.Proofs.Ytmfifbclldnpkaa.A
open Go
set_option linter.unusedVariables false
set_option maxRecDepth 100000
set_option pp.maxSteps 1500

def Srt (l : List Nat) : Prop := l.Pairwise (· < ·)
theorem srt_uniq : ∀ {a b : List Nat}, Srt a → Srt b → (∀ x, x ∈ a ↔ x ∈ b) → a = b
  | [], [], _, _, _ => rfl
  | [], y :: b, _, _, h => absurd ((h y).2 (List.mem_cons_self ..)) (List.not_mem_nil)
  | x :: a, [], _, _, h => absurd ((h x).1 (List.mem_cons_self ..)) (List.not_mem_nil)
  | x :: a, y :: b, ha, hb, h => by
    obtain ⟨ha1, ha2⟩ := List.pairwise_cons.1 ha
    obtain ⟨hb1, hb2⟩ := List.pairwise_cons.1 hb
    have hxy : x = y := by
      rcases List.mem_cons.1 ((h x).1 (List.mem_cons_self ..)) with e | e
      · exact e
      · rcases List.mem_cons.1 ((h y).2 (List.mem_cons_self ..)) with e2 | e2
        · exact e2.symm
        · have := hb1 x e
          have := ha1 y e2
          omega
    subst hxy
    rw [srt_uniq ha2 hb2 fun z => ?_]
    constructor
    · intro hz
      rcases List.mem_cons.1 ((h z).1 (List.mem_cons_of_mem _ hz)) with e | e
      · have := ha1 z hz
        omega
      · exact e
    · intro hz
      rcases List.mem_cons.1 ((h z).2 (List.mem_cons_of_mem _ hz)) with e | e
      · have := hb1 z hz
        omega
      · exact e
def putL : List Nat → Nat → List Nat
  | [], t => [t]
  | x :: l, t => if t < x then t :: x :: l else if t = x then x :: l else x :: putL l t
theorem mem_putL (t x : Nat) : ∀ l : List Nat, x ∈ putL l t ↔ x = t ∨ x ∈ l
  | [] => by simp [putL]
  | y :: l => by
    unfold putL
    by_cases h1 : t < y
    · rw [if_pos h1]
      simp
    · rw [if_neg h1]
      by_cases h2 : t = y
      · rw [if_pos h2]
        simp [h2]
      · rw [if_neg h2]
        simp only [List.mem_cons, mem_putL t x l]
        constructor
        · rintro (h | h | h)
          · exact .inr (.inl h)
          · exact .inl h
          · exact .inr (.inr h)
        · rintro (h | h | h)
          · exact .inr (.inl h)
          · exact .inl h
          · exact .inr (.inr h)
theorem len_putL (t : Nat) : ∀ l : List Nat, (putL l t).length ≤ l.length + 1
  | [] => by simp [putL]
  | y :: l => by
    have := len_putL t l
    unfold putL
    by_cases h1 : t < y
    · rw [if_pos h1]
      simp
    · rw [if_neg h1]
      by_cases h2 : t = y
      · rw [if_pos h2]
        simp
      · rw [if_neg h2]
        simp only [List.length_cons]
        omega
theorem srt_putL (t : Nat) : ∀ {l : List Nat}, Srt l → Srt (putL l t)
  | [], _ => by simp [putL, Srt]
  | y :: l, h => by
    obtain ⟨h1, h2⟩ := List.pairwise_cons.1 h
    unfold putL
    by_cases q1 : t < y
    · rw [if_pos q1]
      refine List.pairwise_cons.2 ⟨fun z hz => ?_, h⟩
      rcases List.mem_cons.1 hz with rfl | hz
      · exact q1
      · have := h1 z hz
        omega
    · rw [if_neg q1]
      by_cases q2 : t = y
      · rw [if_pos q2]
        exact h
      · rw [if_neg q2]
        refine List.pairwise_cons.2 ⟨fun z hz => ?_, srt_putL t h2⟩
        rcases (mem_putL t z l).1 hz with rfl | hz
        · omega
        · exact h1 z hz
/-- Of tags, each once, in their order. -/
def ofL (tags : List Nat) : List Nat := tags.foldl putL []
theorem ofL_snoc (l : List Nat) (t : Nat) : ofL (l ++ [t]) = putL (ofL l) t := by unfold ofL; rw [List.foldl_append]; rfl
theorem foldl_put : ∀ (tags l : List Nat), Srt l → Srt (tags.foldl putL l) ∧ ∀ x, x ∈ tags.foldl putL l ↔ x ∈ l ∨ x ∈ tags
  | [], l, h => ⟨h, fun x => by simp⟩
  | t :: tags, l, h => by
    obtain ⟨h1, h2⟩ := foldl_put tags (putL l t) (srt_putL t h)
    refine ⟨h1, fun x => ?_⟩
    rw [List.foldl_cons, h2, mem_putL, List.mem_cons]
    constructor
    · rintro ((h | h) | h)
      · exact .inr (.inl h)
      · exact .inl h
      · exact .inr (.inr h)
    · rintro (h | h | h)
      · exact .inl (.inr h)
      · exact .inl (.inl h)
      · exact .inr h
theorem srt_ofL (tags : List Nat) : Srt (ofL tags) := (foldl_put tags [] List.Pairwise.nil).1
theorem mem_ofL (tags : List Nat) (x : Nat) : x ∈ ofL tags ↔ x ∈ tags := by
  unfold ofL
  rw [(foldl_put tags [] List.Pairwise.nil).2]
  simp
theorem srt_snoc {l : List Nat} {x : Nat} (h : Srt l) (hx : ∀ y ∈ l, y < x) : Srt (l ++ [x]) := by
  unfold Srt
  rw [List.pairwise_append]
  exact ⟨h, List.pairwise_singleton .., fun a ha b hb => by rw [List.mem_singleton.1 hb]; exact hx a ha⟩
theorem ddN_ok (R : List Nat) (hs : SI 0 R.length R) : ∀ n, n ≤ R.length → Srt (ddN R n) ∧ (∀ x, x ∈ ddN R n ↔ ∃ k, k < n ∧ atN R k = x)
  | 0, _ => ⟨List.Pairwise.nil, fun x => by simp [ddN]⟩
  | n + 1, hn => by
    obtain ⟨h1, h2⟩ := ddN_ok R hs n (by omega)
    by_cases hc : n = 0 ∨ atN R n ≠ atN R (n - 1)
    · rw [ddN_new hc]
      refine ⟨srt_snoc h1 fun y hy => ?_, fun x => ?_⟩
      · obtain ⟨k, hk, rfl⟩ := (h2 y).1 hy
        have a1 := hs k n (Nat.zero_le _) hk (by omega)
        have a2 := hs (n - 1) n (Nat.zero_le _) (by omega) (by omega)
        by_cases hkn : k = n - 1
        · subst hkn
          omega
        · have a3 := hs k (n - 1) (Nat.zero_le _) (by omega) (by omega)
          omega
      · rw [List.mem_append, h2, List.mem_singleton]
        constructor
        · rintro (⟨k, hk, e⟩ | e)
          · exact ⟨k, by omega, e⟩
          · exact ⟨n, by omega, e.symm⟩
        · rintro ⟨k, hk, e⟩
          by_cases hkn : k = n
          · subst hkn
            exact .inr e.symm
          · exact .inl ⟨k, by omega, e⟩
    · have hc2 : 0 < n ∧ atN R n = atN R (n - 1) := ⟨by omega, Classical.byContradiction fun h => hc (.inr h)⟩
      rw [ddN_old hc2.1 hc2.2]
      refine ⟨h1, fun x => ?_⟩
      rw [h2]
      constructor
      · rintro ⟨k, hk, e⟩
        exact ⟨k, by omega, e⟩
      · rintro ⟨k, hk, e⟩
        by_cases hkn : k = n
        · subst hkn
          exact ⟨k - 1, by omega, by rw [← hc2.2]; exact e⟩
        · exact ⟨k, by omega, e⟩
theorem mem_atN (R : List Nat) (x : Nat) : x ∈ R ↔ ∃ k, k < R.length ∧ atN R k = x := by
  rw [List.mem_iff_getElem?]
  constructor
  · rintro ⟨k, hk⟩
    have h := (List.getElem?_eq_some_iff.1 hk).1
    refine ⟨k, h, ?_⟩
    rw [atN_some h] at hk
    exact Option.some.inj hk
  · rintro ⟨k, hk, rfl⟩
    exact ⟨k, atN_some hk⟩
/-- What is sorted, and each once, is what the document says. -/
theorem ddN_ofL {R0 R : List Nat} (so : SO 0 R0.length R0 R) (si : SI 0 R0.length R) : ddN R R.length = ofL R0 := by
  rw [← so.len] at si
  obtain ⟨h1, h2⟩ := ddN_ok R si R.length (Nat.le_refl _)
  refine srt_uniq h1 (srt_ofL R0) fun x => ?_
  rw [h2, ← mem_atN, mem_ofL]
  exact so.perm.mem_iff
structure PutSt (l : List Nat) (t : Nat) where
  i : Nat
  put : Bool
  out : List Nat
  hi : i ≤ l.length
  srt : Srt out
  mem : ∀ x, x ∈ out ↔ (x ∈ l.take i ∧ x ≠ t) ∨ (put = true ∧ x = t)
  hp : put = true ↔ ∃ x, x ∈ l.take i ∧ t ≤ x
  len : out.length ≤ l.length + 1
theorem rput_ok (l : List Nat) (t : Nat) (hs : Srt l) (hn : l.length ≤ 1000) : ACalls Try.prog 31 [us l, u64n t] [] (Ret (us (putL l t))) := by
  refine acalls_of_awp hT mixed Try.func31 rfl (by kernel_rfl) (by kernel_rfl) (Nat.le_of_ble_eq_true rfl) ?_
  refine loopI (α := PutSt l t) (fun z => [(0, us l), (1, u64n t), (5, .slc 0 0 z.out.length 1), (6, bo z.put), (7, i64 (z.i : Nat))]) (fun z => [.row (z.out.map u64n)]) (fun z => l.length - z.i) ⟨0, false, [], Nat.zero_le _, List.Pairwise.nil, by simp, by simp, by simp⟩ [0]
    ⟨⟨rfl, rfl, rfl, rfl, rfl, True.intro⟩, ⟨.inl rfl, True.intro⟩, rfl, rfl, rfl⟩ ?_
  rintro ⟨i, put, out, hi, srt, mem, hp, len⟩ K hK
  have hinc : wrp .i64 ((i : Int) + 1) = ((i + 1 : Nat) : Int) := by rw [wrpE, wi64]; omega
  have hrd : ∀ G : Heap, rdN (.row (out.map u64n) :: G) 0 0 (out.length * 1) = some (out.map u64n) := fun G => rdN_all rfl (by rw [List.length_map]; omega)
  have hlt : ∀ x, x ∈ l.take i → ∀ y, l[i]? = some y → x < y := fun x hx y hy => by
    have hd : l.drop i = y :: l.drop (i + 1) := by
      obtain ⟨h1, rfl⟩ := List.getElem?_eq_some_iff.1 hy
      exact List.drop_eq_getElem_cons h1
    have : Srt (l.take i ++ l.drop i) := by rw [List.take_append_drop]; exact hs
    unfold Srt at this
    rw [List.pairwise_append] at this
    exact this.2.2 x hx y (by rw [hd]; exact List.mem_cons_self ..)
  refine forkD (fun h => ?_) (fun h => ?_)
  · have h' : i < l.length := by have : (i : Int) < (l.length : Int) := h; omega
    obtain ⟨y, hy⟩ : ∃ y, l[i]? = some y := ⟨_, List.getElem?_eq_getElem h'⟩
    have hb := (show (0 : Int) ≤ (i : Nat) ∧ ((i : Nat) : Int) < (l.length : Nat) by omega)
    have htk : l.take (i + 1) = l.take i ++ [y] := take_snocA hy
    have hlt := fun x hx => hlt x hx y hy
    have hm : l.length - i = l.length - (i + 1) + 1 := by omega
    cases put with
    | false =>
      have hp0 : ∀ x, x ∈ l.take i → x < t := fun x hx => Classical.byContradiction fun hh => by
        have := hp.2 ⟨x, hx, by omega⟩
        cases this
      have hout : ∀ x, x ∈ out ↔ x ∈ l.take i := fun x => by
        rw [mem]
        constructor
        · rintro (h | ⟨h, _⟩)
          · exact h.1
          · cases h
        · intro h
          have := hp0 x h
          exact .inl ⟨h, by omega⟩
      refine Ob.intro hb ?_
      refine optK_intro (nth_map hy) ?_
      refine forkD (fun g => ?_) (fun g => ?_)
      · have g' : t ≤ y := by have : (t : Int) ≤ (y : Int) := g; omega
        have hs1 : Srt (out ++ [t]) := srt_snoc srt fun x hx => hp0 x ((hout x).1 hx)
        refine Ob.intro rfl ?_
        refine optK_intro (hrd _) ?_
        refine Ob.intro (show (out.length + 1) * 8 ≤ 140737488355328 ∧ out.length + 1 ≤ 9223372036854775807 by omega) ?_
        refine Ob.intro hb ?_
        refine optK_intro (nth_map hy) ?_
        have hlen : out.length ≤ l.length := by
          have : out = l.take i := srt_uniq srt (hs.sublist (List.take_sublist ..)) hout
          rw [this, List.length_take]
          omega
        refine fork (fun e => ?_) (fun e => ?_)
        · have e' : y ≠ t := by
            have : ((y : Nat) : Int) ≠ (t : Nat) := bne_iff_ne.1 e
            omega
          refine Ob.intro hb ?_
          refine optK_intro (nth_map hy) ?_
          refine Ob.intro rfl ?_
          refine optK_intro (a := (out.map u64n ++ [u64n t])) (rdN_all rfl (show (out.length + 1) * 1 = (out.map u64n ++ [u64n t]).length by rw [List.length_append, List.length_map, Nat.mul_one]; rfl)) ?_
          refine Ob.intro (show (out.length + 1 + 1) * 8 ≤ 140737488355328 ∧ out.length + 1 + 1 ≤ 9223372036854775807 by omega) ?_
          refine hK ⟨i + 1, true, out ++ [t] ++ [y], h', srt_snoc hs1 fun x hx => ?_, fun x => ?_, ?_, ?_⟩ [4] _ hm ⟨⟨rfl, rfl, slcE rfl (by simp only [List.length_append]; rfl), rfl, congrArg i64 hinc, True.intro⟩, ⟨.inl ?_, True.intro⟩, rfl, rfl, rfl⟩
          · rcases List.mem_append.1 hx with hx | hx
            · exact hlt x ((hout x).1 hx)
            · rw [List.mem_singleton.1 hx]
              omega
          · rw [htk]
            simp only [List.mem_append, List.mem_singleton, hout]
            constructor
            · rintro ((hx | rfl) | rfl)
              · exact .inl ⟨.inl hx, by have := hp0 x hx; omega⟩
              · exact .inr ⟨trivial, rfl⟩
              · exact .inl ⟨.inr rfl, e'⟩
            · rintro (⟨hx | rfl, hne⟩ | ⟨_, rfl⟩)
              · exact .inl (.inl hx)
              · exact .inr rfl
              · exact .inl (.inr rfl)
          · rw [htk]
            exact ⟨fun _ => ⟨y, by simp, g'⟩, fun _ => rfl⟩
          · simp only [List.length_append, List.length_singleton]
            have : out.length < l.length := by
              have h5 : out = l.take i := srt_uniq srt (hs.sublist (List.take_sublist ..)) hout
              rw [h5, List.length_take]
              omega
            omega
          · show some (AObj.row ((out.map u64n ++ [u64n t]) ++ [u64n y])) = some (renO _ (.row ((out ++ [t] ++ [y]).map u64n)))
            rw [renO_us, List.map_append, List.map_append]
            rfl
        · have e' : y = t := by
            have : ((y : Nat) : Int) = (t : Nat) := bne_eq_false_iff_eq.1 e
            omega
          refine hK ⟨i + 1, true, out ++ [t], h', hs1, fun x => ?_, ?_, ?_⟩ [2] _ hm ⟨⟨rfl, rfl, slcE rfl (by simp only [List.length_append]; rfl), rfl, congrArg i64 hinc, True.intro⟩, ⟨.inl ?_, True.intro⟩, rfl, rfl, rfl⟩
          · rw [htk]
            simp only [List.mem_append, List.mem_singleton, hout]
            constructor
            · rintro (hx | rfl)
              · exact .inl ⟨.inl hx, by have := hp0 x hx; omega⟩
              · exact .inr ⟨trivial, rfl⟩
            · rintro (⟨hx | rfl, hne⟩ | ⟨_, rfl⟩)
              · exact .inl hx
              · exact absurd e' hne
              · exact .inr rfl
          · rw [htk]
            exact ⟨fun _ => ⟨y, by simp, g'⟩, fun _ => rfl⟩
          · rw [List.length_append, List.length_singleton]
            omega
          · show some (AObj.row (out.map u64n ++ [u64n t])) = some (renO _ (.row ((out ++ [t]).map u64n)))
            rw [renO_us, List.map_append]
            rfl
      · have g' : y < t := by have : ¬ (t : Int) ≤ (y : Int) := g; omega
        refine Ob.intro hb ?_
        refine optK_intro (nth_map hy) ?_
        refine fork (fun e => ?_) (fun e => ?_)
        · refine Ob.intro hb ?_
          refine optK_intro (nth_map hy) ?_
          refine Ob.intro rfl ?_
          refine optK_intro (hrd _) ?_
          refine Ob.intro (show (out.length + 1) * 8 ≤ 140737488355328 ∧ out.length + 1 ≤ 9223372036854775807 by omega) ?_
          refine hK ⟨i + 1, false, out ++ [y], h', srt_snoc srt fun x hx => hlt x ((hout x).1 hx), fun x => ?_, ?_, ?_⟩ [2] _ hm ⟨⟨rfl, rfl, slcE rfl (by simp only [List.length_append]; rfl), rfl, congrArg i64 hinc, True.intro⟩, ⟨.inl ?_, True.intro⟩, rfl, rfl, rfl⟩
          · rw [htk]
            simp only [List.mem_append, List.mem_singleton, hout]
            constructor
            · rintro (hx | rfl)
              · exact .inl ⟨.inl hx, by have := hp0 x hx; omega⟩
              · exact .inl ⟨.inr rfl, by omega⟩
            · rintro (⟨hx, hne⟩ | ⟨h, _⟩)
              · exact hx
              · cases h
          · rw [htk]
            constructor
            · intro h
              cases h
            · rintro ⟨x, hx, hge⟩
              exfalso
              rcases List.mem_append.1 hx with hx | hx
              · have := hp0 x hx
                omega
              · rw [List.mem_singleton.1 hx] at hge
                omega
          · rw [List.length_append, List.length_singleton]
            have h5 : out = l.take i := srt_uniq srt (hs.sublist (List.take_sublist ..)) hout
            rw [h5, List.length_take]
            omega
          · show some (AObj.row (out.map u64n ++ [u64n y])) = some (renO _ (.row ((out ++ [y]).map u64n)))
            rw [renO_us, List.map_append]
            rfl
        · exfalso
          have : ((y : Nat) : Int) = (t : Nat) := bne_eq_false_iff_eq.1 e
          omega
    | true =>
      obtain ⟨z, hz, hzt⟩ := hp.1 rfl
      have hyt : t < y := by have := hlt z hz; omega
      refine Ob.intro hb ?_
      refine optK_intro (nth_map hy) ?_
      refine fork (fun e => ?_) (fun e => ?_)
      · refine Ob.intro hb ?_
        refine optK_intro (nth_map hy) ?_
        refine Ob.intro rfl ?_
        refine optK_intro (hrd _) ?_
        refine Ob.intro (show (out.length + 1) * 8 ≤ 140737488355328 ∧ out.length + 1 ≤ 9223372036854775807 by omega) ?_
        have hs1 : Srt (out ++ [y]) := srt_snoc srt fun x hx => by
          rcases (mem x).1 hx with ⟨h, _⟩ | ⟨_, rfl⟩
          · exact hlt x h
          · exact hyt
        have hmem : ∀ x, x ∈ out ++ [y] ↔ (x ∈ l.take (i + 1) ∧ x ≠ t) ∨ (true = true ∧ x = t) := fun x => by
          rw [htk]
          simp only [List.mem_append, List.mem_singleton, mem]
          constructor
          · rintro ((⟨hx, hne⟩ | ⟨_, rfl⟩) | rfl)
            · exact .inl ⟨.inl hx, hne⟩
            · exact .inr ⟨trivial, rfl⟩
            · exact .inl ⟨.inr rfl, by omega⟩
          · rintro (⟨hx | rfl, hne⟩ | ⟨_, rfl⟩)
            · exact .inl (.inl ⟨hx, hne⟩)
            · exact .inr rfl
            · exact .inl (.inr ⟨trivial, rfl⟩)
        refine hK ⟨i + 1, true, out ++ [y], h', hs1, hmem, ?_, ?_⟩ [2] _ hm ⟨⟨rfl, rfl, slcE rfl (by simp only [List.length_append]; rfl), rfl, congrArg i64 hinc, True.intro⟩, ⟨.inl ?_, True.intro⟩, rfl, rfl, rfl⟩
        · rw [htk]
          exact ⟨fun _ => ⟨z, by simp [hz], hzt⟩, fun _ => rfl⟩
        · have h5 : out ++ [y] = putL (l.take (i + 1)) t := by
            refine srt_uniq hs1 (srt_putL t (hs.sublist (List.take_sublist ..))) fun x => ?_
            rw [hmem, mem_putL]
            constructor
            · rintro (⟨h, _⟩ | ⟨_, h⟩)
              · exact .inr h
              · exact .inl h
            · rintro (h | h)
              · exact .inr ⟨rfl, h⟩
              · by_cases he : x = t
                · exact .inr ⟨rfl, he⟩
                · exact .inl ⟨h, he⟩
          rw [h5]
          have := len_putL t (l.take (i + 1))
          rw [List.length_take] at this
          omega
        · show some (AObj.row (out.map u64n ++ [u64n y])) = some (renO _ (.row ((out ++ [y]).map u64n)))
          rw [renO_us, List.map_append]
          rfl
      · exfalso
        have : ((y : Nat) : Int) = (t : Nat) := bne_eq_false_iff_eq.1 e
        omega
  · have h' : i = l.length := by have : ¬ (i : Int) < (l.length : Int) := h; omega
    rw [h', List.take_length] at mem hp
    cases put with
    | false =>
      refine Ob.intro rfl ?_
      refine optK_intro (hrd _) ?_
      refine Ob.intro (show (out.length + 1) * 8 ≤ 140737488355328 ∧ out.length + 1 ≤ 9223372036854775807 by omega) ?_
      have hout : out ++ [t] = putL l t := by
        refine srt_uniq (srt_snoc srt fun x hx => ?_) (srt_putL t hs) fun x => ?_
        · rcases (mem x).1 hx with ⟨h, _⟩ | ⟨h, _⟩
          · refine Classical.byContradiction fun hh => ?_
            have := hp.2 ⟨x, h, by omega⟩
            cases this
          · cases h
        · rw [mem_putL, List.mem_append, List.mem_singleton, mem]
          constructor
          · rintro ((h | h) | h)
            · exact .inr h.1
            · cases h.1
            · exact .inl h
          · rintro (h | h)
            · exact .inr h
            · by_cases he : x = t
              · exact .inr he
              · exact .inl (.inl ⟨h, he⟩)
      refine ⟨rfl, [], us (putL l t), ⟨⟨_, rfl, ?_⟩, True.intro, Nat.le_refl _, rfl⟩, rfl, rfl⟩
      rw [← hout]
      exact frz_us3 (l := out ++ [t]) (k := 6) (by show some (AObj.row _) = _; rw [List.map_append]; rfl) (by rw [List.length_append]; rfl) rfl
    | true =>
      have hout : out = putL l t := by
        refine srt_uniq srt (srt_putL t hs) fun x => ?_
        rw [mem_putL, mem]
        constructor
        · rintro (h | h)
          · exact .inr h.1
          · exact .inl h.2
        · rintro (h | h)
          · exact .inr ⟨rfl, h⟩
          · by_cases he : x = t
            · exact .inr ⟨rfl, he⟩
            · exact .inl ⟨h, he⟩
      refine ⟨rfl, [], us (putL l t), ⟨⟨_, rfl, ?_⟩, True.intro, Nat.le_refl _, rfl⟩, rfl, rfl⟩
      rw [← hout]
      exact frz_us3 (l := out) (k := 6) rfl rfl rfl
end Go.Proofs.Ytmfifbclldnpkaa.A
