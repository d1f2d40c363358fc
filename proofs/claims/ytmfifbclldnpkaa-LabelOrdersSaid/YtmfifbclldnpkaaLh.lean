/- label: Of, Join. No condition. -/
import Derived.Test.YtmfifbclldnpkaaLg
namespace Go.Proofs.Ytmfifbclldnpkaa.A
open Go
set_option linter.unusedVariables false
set_option maxRecDepth 100000
set_option pp.maxSteps 1500

theorem ACalls.weakR {P : Program} {g : FuncId} {args : List AV} {H : Heap} {R R' : AEnd → Heap → Prop} (h : ACalls P g args H R) (k : ∀ E H', R E H' → ∃ E', R' E' H' ∧ ∀ Y e, EndR Y E e → EndR Y E' e) : ACalls P g args H R' :=
  fun X vs hr hv => (h X vs hr hv).mono fun e w' ⟨E, H', Y, h1, h2, h3, h4⟩ => by
    obtain ⟨E', h5, h6⟩ := k E H' h1
    exact ⟨E', H', Y, h5, h2, h6 _ _ h3, h4⟩
theorem EndR_refl (E : AEnd) : ∀ Y e, EndR Y E e → EndR Y E e := fun _ _ h => h
theorem EndR_nil : ∀ Y e, EndR Y (.ret nilS) e → EndR Y (.ret (us [])) e := fun Y e h => by
  cases e with
  | returned v => exact VR_nilView h
  | panicked _ => exact h
  | outgrown => exact h
theorem EndR_nilT (r : List AV) : ∀ Y e, EndR Y (.ret (.tup (nilS :: r))) e → EndR Y (.ret (.tup (us [] :: r))) e := fun Y e h => by
  cases e with
  | returned v =>
    have h' : VR Y (.tup (nilS :: r)) v := h
    show VR Y (.tup (us [] :: r)) v
    simp only [VR] at h' ⊢
    obtain ⟨ws, e, hl⟩ := h'
    refine ⟨ws, e, ?_⟩
    generalize ws.toList = q at hl
    match q, hl with
    | w :: q, hl =>
      simp only [VL] at hl ⊢
      exact ⟨VR_nilView hl.1, hl.2⟩
    | [], hl => simp [VL] at hl
  | panicked _ => exact h
  | outgrown => exact h
/-- A slice that may be nil is told as one without anything. -/
theorem nilArg {P : Program} {g : FuncId} {r : List AV} {H : Heap} {R : AEnd → Heap → Prop} (h : ACalls P g (us [] :: r) H R) : ACalls P g (nilS :: r) H R := h.weaken fun X vs hv => by
  match vs, hv with
  | w :: q, hv =>
    simp only [VL] at hv ⊢
    exact ⟨VR_nilView hv.1, hv.2⟩
  | [], hv => simp [VL] at hv
theorem len_foldl_put : ∀ (tags l : List Nat), (tags.foldl putL l).length ≤ l.length + tags.length
  | [], l => by simp
  | t :: tags, l => by
    have h1 := len_foldl_put tags (putL l t)
    have h2 := len_putL t l
    rw [List.foldl_cons, List.length_cons]
    omega
theorem len_ofL (tags : List Nat) : (ofL tags).length ≤ tags.length := by
  have := len_foldl_put tags []
  unfold ofL
  simpa using this
inductive OfSt where
  | start
  | mid (k : Nat)
def OfSt.L (tags : List Nat) : OfSt → List (Nat × AV)
  | .start => [(0, us tags), (3, .slc 0 0 0 1), (4, i64 0)]
  | .mid k => [(0, us tags), (3, us (ofL (tags.take k))), (4, i64 (k : Nat))]
def OfSt.H : OfSt → Heap
  | .start => [.row []]
  | .mid _ => []
def OfSt.m (tags : List Nat) : OfSt → Nat
  | .start => tags.length
  | .mid k => tags.length - k
theorem rof_ok (tags : List Nat) (hn : tags.length ≤ 900) : ACalls Try.prog 11 [us tags] [] (Ret (us (ofL tags))) := by
  refine acalls_of_awp hT mixed Try.func11 rfl (by kernel_rfl) (by kernel_rfl) (Nat.le_of_ble_eq_true rfl) ?_
  refine loopI (α := { z : OfSt // match z with | .start => True | .mid k => k ≤ tags.length }) (fun z => z.val.L tags) (fun z => z.val.H) (fun z => z.val.m tags) ⟨.start, True.intro⟩ [0] ⟨⟨rfl, rfl, rfl, True.intro⟩, ⟨.inl rfl, True.intro⟩, rfl, rfl, rfl⟩ ?_
  rintro ⟨z, hz⟩ K hK
  cases z with
  | start =>
    refine forkD (fun h => ?_) (fun h => ?_)
    · have h' : 0 < tags.length := by have : (0 : Int) < (tags.length : Int) := h; omega
      obtain ⟨y, hy⟩ : ∃ y, tags[0]? = some y := ⟨_, List.getElem?_eq_getElem h'⟩
      refine Ob.intro (show (0 : Int) ≤ 0 ∧ (0 : Int) < (tags.length : Nat) by omega) ?_
      refine optK_intro (nth_map (k := 0) hy) ?_
      refine callCut (H := [.row []]) (bs := [us [], u64n y]) 0 rfl ?_
      refine callP (rput_ok [] y List.Pairwise.nil (by decide)) rfl rfl ?_
      refine hK ⟨.mid 1, h'⟩ [] _ (show tags.length = tags.length - 1 + 1 by omega) ⟨⟨rfl, congrArg us (by rw [take_snocA hy]; rfl), congrArg i64 (by rw [wrpE, wi64]; rfl), True.intro⟩, True.intro, rfl, rfl, rfl⟩
    · have h' : tags = [] := List.eq_nil_of_length_eq_zero (by have : ¬ (0 : Int) < (tags.length : Int) := h; omega)
      subst h'
      exact ⟨rfl, [], us [], ⟨⟨_, rfl, rfl⟩, True.intro, Nat.le_refl _, rfl⟩, rfl, rfl⟩
  | mid k =>
    have hinc : wrp .i64 ((k : Int) + 1) = ((k + 1 : Nat) : Int) := by
      have : k ≤ tags.length := hz
      rw [wrpE, wi64]
      omega
    refine forkD (fun h => ?_) (fun h => ?_)
    · have h' : k < tags.length := by have : (k : Int) < (tags.length : Int) := h; omega
      obtain ⟨y, hy⟩ : ∃ y, tags[k]? = some y := ⟨_, List.getElem?_eq_getElem h'⟩
      have hl := len_ofL (tags.take k)
      rw [List.length_take] at hl
      refine Ob.intro (show (0 : Int) ≤ (k : Nat) ∧ ((k : Nat) : Int) < (tags.length : Nat) by omega) ?_
      refine optK_intro (nth_map hy) ?_
      refine callP (rput_ok (ofL (tags.take k)) y (srt_ofL _) (by omega)) rfl rfl ?_
      refine hK ⟨.mid (k + 1), h'⟩ [] _ (show tags.length - k = tags.length - (k + 1) + 1 by omega) ⟨⟨rfl, congrArg us (by rw [take_snocA hy, ofL_snoc]), congrArg i64 hinc, True.intro⟩, True.intro, rfl, rfl, rfl⟩
    · have h' : k = tags.length := by
        have h1 : ¬ (k : Int) < (tags.length : Int) := h
        have h2 : k ≤ tags.length := hz
        omega
      subst h'
      refine end0 rfl rfl rfl ?_
      show us (ofL (tags.take tags.length)) = _
      rw [List.take_length]
theorem frz_usT {H : Heap} {i n m k : Nat} {R : List Nat} (h : nth H i = some (.row (R.map u64n))) (hn : n ≤ R.length) (hm : Nat.blt i m = false) : frz H m (k + 2) (.slc i 0 n 1) = some (us (R.take n)) := by
  have h1 : rdN H i 0 (n * 1) = some ((R.take n).map u64n) := by
    rw [rdN_eq h (by rw [List.length_map]; omega), List.drop_zero, Nat.mul_one, List.map_take]
  have h2 : mapO (frz0 H m (k + 1)) ((R.take n).map u64n) = some ((R.take n).map u64n) := mapO_map (f := frz0 H m (k + 1)) (g := u64n) (h := u64n) (fun _ => rfl) (R.take n)
  have h3 : (R.take n).length = n := by rw [List.length_take]; omega
  have h4 : us (R.take n) = .view n ((R.take n).map u64n) := by unfold us; rw [h3]
  rw [h4]
  simp only [frz, frz0, hm, cond_false, h1, h2]
theorem frz_tup {H : Heap} {m k : Nat} {cs ds : List AV} (h : mapO (frz H m k) cs = some ds) : frz H m (k + 1) (.tup cs) = some (.tup ds) := by
  simp only [frz, h]
def ofP (tags : List Nat) : List Nat × Int := if 0 ∈ tags then ([], 1) else if 6 < (ofL tags).length then ([], 5) else (ofL tags, 0)
theorem of_gen (tags : List Nat) (hn : tags.length ≤ 900) (hs : ACalls Try.prog 29 [.slc 0 0 tags.length 1] [.row (tags.map u64n)] (fun E G => ∃ R, SO 0 tags.length tags R ∧ SI 0 tags.length R ∧ E = .ret (.tup []) ∧ G = [.row (R.map u64n)])) : ACalls Try.prog 10 [us tags] [] (Ret (.tup [us (ofP tags).1, i64 (ofP tags).2])) := by
  refine ACalls.weakR (R := fun E G => (E = .ret (.tup [us (ofP tags).1, i64 (ofP tags).2]) ∨ ((ofP tags).1 = [] ∧ E = .ret (.tup [nilS, i64 (ofP tags).2]))) ∧ G = []) ?_ ?_
  · refine acalls_of_awp hT mixed Try.func10 rfl (by kernel_rfl) (by kernel_rfl) (Nat.le_of_ble_eq_true rfl) ?_
    refine callS (clone_ok tags (by omega)) [] True.intro rfl ?_
    rintro E G (⟨hnil, rfl, rfl⟩ | ⟨rfl, rfl⟩) _
    · subst hnil
      refine ⟨_, _, rfl, rfl, ?_⟩
      refine callP sort_nil rfl rfl ?_
      refine callP compact_nil rfl rfl ?_
      exact ⟨rfl, [], .tup [nilS, i64 0], ⟨⟨_, rfl, rfl⟩, True.intro, Nat.le_refl _, rfl⟩, .inr ⟨rfl, rfl⟩, rfl⟩
    · refine ⟨_, [.dead, .row (tags.map u64n)], rfl, by show [AObj.dead, renO _ (.row (tags.map u64n))] = _; rw [renO_us], ?_⟩
      refine callS hs [1] ⟨.inl (by rw [renO_us]; rfl), True.intro⟩ rfl ?_
      rintro E G ⟨R, so, si, rfl, rfl⟩ _
      refine ⟨_, [.dead, .row (R.map u64n)], rfl, by rw [renH_us]; rfl, ?_⟩
      have hc := compact_ok R (by rw [so.len]; omega)
      rw [ddN_ofL so si, so.len] at hc
      refine callS hc [1] ⟨.inl (by rw [renO_us]; rfl), True.intro⟩ rfl ?_
      rintro E G ⟨S, m, hm, hS, rfl, rfl⟩ _
      refine ⟨_, [.dead, .row (S.map u64n)], rfl, by rw [renH_us]; rfl, ?_⟩
      have hml : (ofL tags).length = m := by rw [← hS, List.length_take]; omega
      have hz : 0 ∈ tags ↔ 0 < m ∧ atN S 0 = 0 := by
        rw [← mem_ofL]
        have hsr := srt_ofL tags
        constructor
        · intro h
          have hpos : 0 < m := by rw [← hml]; exact List.length_pos_of_mem h
          refine ⟨hpos, ?_⟩
          have h0 : (ofL tags)[0]? = some (atN S 0) := by rw [← hS, List.getElem?_take_of_lt hpos]; exact atN_some (by omega)
          obtain ⟨h1, h2⟩ := List.getElem?_eq_some_iff.1 h0
          generalize ofL tags = q at *
          match q, h1, h2 with
          | x :: q, _, h2 =>
            have h2' : x = atN S 0 := h2
            rcases List.mem_cons.1 h with e | e
            · omega
            · have := (List.pairwise_cons.1 hsr).1 0 e
              omega
        · rintro ⟨hpos, h0⟩
          have h1 : (ofL tags)[0]? = some (atN S 0) := by rw [← hS, List.getElem?_take_of_lt hpos]; exact atN_some (by omega)
          rw [h0] at h1
          exact List.mem_of_getElem? h1
      have hf : frz [.dead, .row (S.map u64n)] 0 7 (.slc 1 0 m 1) = some (us (ofL tags)) := by rw [← hS]; exact frz_usT (k := 5) rfl hm rfl
      have hfr : frz [.dead, .row (S.map u64n)] 0 8 (.tup [.slc 1 0 m 1, i64 0]) = some (.tup [us (ofL tags), i64 0]) := frz_tup (by simp only [mapO, hf]; rfl)
      refine forkD (fun h => ?_) (fun h => ?_)
      · have h' : 0 < m := by have : (m : Int) > 0 := h; omega
        refine Ob.intro (show (0 : Int) ≤ 0 ∧ (0 : Int) < (m : Nat) by omega) ?_
        refine optK_intro (rd_us (k := 0) rfl rfl (atN_some (by omega))) ?_
        refine fork (fun g => ?_) (fun g => ?_)
        · have g' : atN S 0 = 0 := by
            have : ((atN S 0 : Nat) : Int) = 0 := beq_iff_eq.1 g
            omega
          have hp : ofP tags = ([], 1) := by unfold ofP; rw [if_pos (hz.2 ⟨h', g'⟩)]
          rw [hp]
          exact ⟨rfl, [], .tup [nilS, i64 1], ⟨⟨_, rfl, rfl⟩, True.intro, Nat.le_refl _, rfl⟩, .inr ⟨rfl, rfl⟩, rfl⟩
        · have g' : ¬ 0 ∈ tags := fun hh => by
            have := (hz.1 hh).2
            have g2 : ((atN S 0 : Nat) : Int) ≠ 0 := beq_eq_false_iff_ne.1 g
            omega
          refine forkD (fun h6 => ?_) (fun h6 => ?_)
          · have h6' : 6 < m := by have : (m : Int) > 6 := h6; omega
            have hp : ofP tags = ([], 5) := by unfold ofP; rw [if_neg g', if_pos (by omega)]
            rw [hp]
            exact ⟨rfl, [], .tup [nilS, i64 5], ⟨⟨_, rfl, rfl⟩, True.intro, Nat.le_refl _, rfl⟩, .inr ⟨rfl, rfl⟩, rfl⟩
          · have h6' : ¬ 6 < m := by have : ¬ (m : Int) > 6 := h6; omega
            have hp : ofP tags = (ofL tags, 0) := by unfold ofP; rw [if_neg g', if_neg (by omega)]
            rw [hp]
            refine ⟨rfl, [], .tup [us (ofL tags), i64 0], ⟨⟨_, rfl, ?_⟩, True.intro, Nat.le_refl _, rfl⟩, .inl rfl, rfl⟩
            exact hfr
      · have h' : m = 0 := by have : ¬ (m : Int) > 0 := h; omega
        have g' : ¬ 0 ∈ tags := fun hh => by
          have := (hz.1 hh).1
          omega
        refine forkD (fun h6 => ?_) (fun h6 => ?_)
        · have h6' : 6 < m := by have : (m : Int) > 6 := h6; omega
          omega
        · have hp : ofP tags = (ofL tags, 0) := by unfold ofP; rw [if_neg g', if_neg (by omega)]
          rw [hp]
          refine ⟨rfl, [], .tup [us (ofL tags), i64 0], ⟨⟨_, rfl, ?_⟩, True.intro, Nat.le_refl _, rfl⟩, .inl rfl, rfl⟩
          exact hfr
  · rintro E G ⟨rfl | ⟨h, rfl⟩, rfl⟩
    · exact ⟨_, ⟨rfl, rfl⟩, EndR_refl _⟩
    · rw [h]
      exact ⟨_, ⟨rfl, rfl⟩, EndR_nilT _⟩
end Go.Proofs.Ytmfifbclldnpkaa.A
