/- label: the laws LabelOrders, LabelBounds. No condition. -/
import Derived.Test.YtmfifbclldnpkaaLm
namespace Go.Proofs.Ytmfifbclldnpkaa.A
open Go
set_option linter.unusedVariables false
set_option maxRecDepth 100000
set_option pp.maxSteps 1500

/-! ### Orders -/
theorem lexI_neg : ∀ {a b : List Nat}, a.length = b.length → lexI b a = - lexI a b
  | [], [], _ => rfl
  | [], _ :: _, h => by simp at h
  | _ :: _, [], h => by simp at h
  | x :: a, y :: b, h => by
    have ih := lexI_neg (a := a) (b := b) (by simpa using h)
    unfold lexI
    by_cases h1 : x < y
    · rw [if_pos h1, if_neg (by omega), if_pos h1]
      rfl
    · rw [if_neg h1]
      by_cases h2 : y < x
      · rw [if_pos h2, if_neg h1, if_pos h2]
      · rw [if_neg h2, if_neg h1, if_neg h2, ih]
theorem cmpL_neg (a b : List Nat) : cmpL b a = - cmpL a b := by
  unfold cmpL
  by_cases h1 : a.length < b.length
  · rw [if_pos h1, if_neg (by omega), if_pos h1]
    rfl
  · rw [if_neg h1]
    by_cases h2 : b.length < a.length
    · rw [if_pos h2, if_neg h1, if_pos h2]
    · rw [if_neg h2, if_neg h1, if_neg h2, lexI_neg (by omega)]
theorem lexI_3 (a : List Nat) : ∀ b, lexI a b = -1 ∨ lexI a b = 0 ∨ lexI a b = 1 := by
  induction a with
  | nil => intro b; exact .inr (.inl rfl)
  | cons x a ih =>
    intro b
    cases b with
    | nil => exact .inr (.inl rfl)
    | cons y b =>
      unfold lexI
      by_cases h1 : x < y
      · rw [if_pos h1]; exact .inl rfl
      · rw [if_neg h1]
        by_cases h2 : y < x
        · rw [if_pos h2]; exact .inr (.inr rfl)
        · rw [if_neg h2]; exact ih b
theorem cmpL_3 (a b : List Nat) : cmpL a b = -1 ∨ cmpL a b = 0 ∨ cmpL a b = 1 := by
  unfold cmpL
  by_cases h1 : a.length < b.length
  · rw [if_pos h1]; exact .inl rfl
  · rw [if_neg h1]
    by_cases h2 : b.length < a.length
    · rw [if_pos h2]; exact .inr (.inr rfl)
    · rw [if_neg h2]; exact lexI_3 a b
theorem lexI_trans : ∀ {a b c : List Nat}, a.length = b.length → b.length = c.length → lexI a b ≤ 0 → lexI b c ≤ 0 → lexI a c ≤ 0
  | [], _, _, _, _, _, _ => by simp [lexI]
  | x :: a, [], _, h, _, _, _ => by simp at h
  | x :: a, y :: b, [], _, h, _, _ => by simp at h
  | x :: a, y :: b, z :: c, h1, h2, h3, h4 => by
    have ih := lexI_trans (a := a) (b := b) (c := c) (by simpa using h1) (by simpa using h2)
    unfold lexI at h3 h4 ⊢
    by_cases p1 : x < y
    · by_cases p2 : y < z
      · rw [if_pos (by omega)]; omega
      · rw [if_neg p2] at h4
        by_cases p3 : z < y
        · rw [if_pos p3] at h4; omega
        · rw [if_pos (by omega)]; omega
    · rw [if_neg p1] at h3
      by_cases p4 : y < x
      · rw [if_pos p4] at h3; omega
      · rw [if_neg p4] at h3
        by_cases p2 : y < z
        · rw [if_pos (by omega)]; omega
        · rw [if_neg p2] at h4
          by_cases p3 : z < y
          · rw [if_pos p3] at h4; omega
          · rw [if_neg p3] at h4
            rw [if_neg (by omega), if_neg (by omega)]
            exact ih h3 h4
theorem cmpL_trans {a b c : List Nat} (h1 : cmpL a b ≤ 0) (h2 : cmpL b c ≤ 0) : cmpL a c ≤ 0 := by
  unfold cmpL at h1 h2 ⊢
  by_cases p1 : a.length < b.length
  · by_cases p2 : b.length < c.length
    · rw [if_pos (by omega)]; omega
    · rw [if_neg p2] at h2
      by_cases p3 : c.length < b.length
      · rw [if_pos p3] at h2; omega
      · rw [if_pos (by omega)]; omega
  · rw [if_neg p1] at h1
    by_cases p4 : b.length < a.length
    · rw [if_pos p4] at h1; omega
    · rw [if_neg p4] at h1
      by_cases p2 : b.length < c.length
      · rw [if_pos (by omega)]; omega
      · rw [if_neg p2] at h2
        by_cases p3 : c.length < b.length
        · rw [if_pos p3] at h2; omega
        · rw [if_neg p3] at h2
          rw [if_neg (by omega), if_neg (by omega)]
          exact lexI_trans (by omega) (by omega) h1 h2
theorem orders_walk (a b c : List Nat) (x y z : Int) (hx : x = -1 ∨ x = 0 ∨ x = 1) (hy : y = -1 ∨ y = 0 ∨ y = 1) (hz : z = -1 ∨ z = 0 ∨ z = 1) (hxyz : x ≤ 0 → y ≤ 0 → z ≤ 0 ∧ (z < 0 ∨ x = 0 ∧ y = 0))
    (cf : ACalls Try.prog 9 [us a, us b] [] (Ret (bo false))) (cg : ACalls Try.prog 9 [us c, nilS] [] (Ret (bo false))) (h1 : ACalls Try.prog 21 [us a, us b] [] (Ret (i64 x))) (h2 : ACalls Try.prog 21 [us b, us c] [] (Ret (i64 y))) (h3 : ACalls Try.prog 21 [us a, us c] [] (Ret (i64 z))) (h4 : ACalls Try.prog 21 [us b, us a] [] (Ret (i64 (-x))))
    (cs : ACalls Try.prog 16 [us a, us b] [] (Ret (bo (decide (x = 0))))) : ACalls Try.prog 5 [us a, us b, us c] [] (Ret (bo true)) := by
  have w1 : wrp .i64 (0 - 1) = -1 := by rw [wrpE, wi64]; rfl
  have w0 : wrp .i64 (0 - 0) = 0 := by rw [wrpE, wi64]; rfl
  have wm : wrp .i64 (0 - (-1)) = 1 := by rw [wrpE, wi64]; rfl
  rcases hx with rfl | rfl | rfl <;> rcases hy with rfl | rfl | rfl <;> rcases hz with rfl | rfl | rfl <;> first
  | (exfalso; have := hxyz (by decide) (by decide); omega)
  | (refine acalls_of_awp hT mixed Try.func5 rfl (by kernel_rfl) (by kernel_rfl) (Nat.le_of_ble_eq_true rfl) ?_
     refine callP awakeL_ok rfl rfl ?_
     refine callP cf rfl rfl ?_
     refine callP cg rfl rfl ?_
     refine callP h1 rfl rfl ?_
     refine callP h2 rfl rfl ?_
     refine callP h3 rfl rfl ?_
     refine callP h4 rfl rfl ?_
     refine fork (fun g => ?_) (fun g => ?_)
     · exfalso
       have hne := bne_iff_ne.1 g
       first
       | exact hne (show -(-1 : Int) = wrp .i64 (0 - (-1)) from by rw [wm]; rfl)
       | exact hne (show -(0 : Int) = wrp .i64 (0 - 0) from by rw [w0]; rfl)
       | exact hne (show -(1 : Int) = wrp .i64 (0 - 1) from by rw [w1])
     refine callP cs rfl rfl ?_
     refine end0 rfl rfl rfl rfl)
theorem labelOrders_law (l0 : List AV) (w0 : Wf (.slice (.int .u64)) l0) (l1 : List AV) (w1 : Wf (.slice (.int .u64)) l1) (l2 : List AV) (w2 : Wf (.slice (.int .u64)) l2) : ACalls Try.prog 5 [argA (.slice (.int .u64)) l0, argA (.slice (.int .u64)) l1, argA (.slice (.int .u64)) l2] [] (Ret (.sc (.bool true))) := by
  obtain ⟨a, rfl, _, ha⟩ := wf_nats w0
  obtain ⟨b, rfl, _, hb⟩ := wf_nats w1
  obtain ⟨c, rfl, _, hc⟩ := wf_nats w2
  show ACalls Try.prog 5 [us a, us b, us c] [] (Ret (bo true))
  have cf := farL_ok a b
  have cg := farL_nil c
  by_cases h1 : 60 < a.length ∨ 60 < b.length
  · rw [decide_eq_true h1] at cf
    refine acalls_of_awp hT mixed Try.func5 rfl (by kernel_rfl) (by kernel_rfl) (Nat.le_of_ble_eq_true rfl) ?_
    refine callP awakeL_ok rfl rfl ?_
    refine callP cf rfl rfl ?_
    refine end0 rfl rfl rfl rfl
  · rw [decide_eq_false h1] at cf
    by_cases h2 : 60 < c.length
    · rw [decide_eq_true h2] at cg
      refine acalls_of_awp hT mixed Try.func5 rfl (by kernel_rfl) (by kernel_rfl) (Nat.le_of_ble_eq_true rfl) ?_
      refine callP awakeL_ok rfl rfl ?_
      refine callP cf rfl rfl ?_
      refine callP cg rfl rfl ?_
      refine end0 rfl rfl rfl rfl
    · rw [decide_eq_false h2] at cg
      have c4 := compare_ok b a (by omega) (by omega)
      rw [cmpL_neg a b] at c4
      have cs := same_ok a b (by omega) (by omega)
      have e : decide (a = b) = decide (cmpL a b = 0) := by rw [decide_eq_decide]; exact (cmpL_zero a b).symm
      rw [e] at cs
      refine orders_walk a b c _ _ _ (cmpL_3 a b) (cmpL_3 b c) (cmpL_3 a c) (fun hx hy => ⟨cmpL_trans hx hy, ?_⟩) cf cg (compare_ok a b (by omega) (by omega)) (compare_ok b c (by omega) (by omega)) (compare_ok a c (by omega) (by omega)) c4 cs
      by_cases h0 : cmpL a c = 0
      · right
        have hac := (cmpL_zero a c).1 h0
        subst hac
        have := cmpL_neg a b
        omega
      · left
        have := cmpL_trans hx hy
        omega
/-! ### Bounds -/
theorem rightB_iff (l : List Nat) : rightB l = true ↔ l.length ≤ 6 ∧ Srt l ∧ 0 ∉ l := by
  have key : ∀ (l : List Nat) (p : Nat), risB p l = true ↔ Srt l ∧ ∀ x ∈ l, p < x := by
    intro l
    induction l with
    | nil => intro p; simp [risB, Srt]
    | cons x l ih =>
      intro p
      rw [risB, Bool.and_eq_true, decide_eq_true_iff, ih]
      unfold Srt
      rw [List.pairwise_cons]
      constructor
      · rintro ⟨h1, h2, h3⟩
        refine ⟨⟨h3, h2⟩, fun y hy => ?_⟩
        rcases List.mem_cons.1 hy with rfl | hy
        · exact h1
        · have := h3 y hy
          omega
      · rintro ⟨⟨h1, h2⟩, h3⟩
        exact ⟨h3 x (List.mem_cons_self ..), h2, h1⟩
  unfold rightB
  rw [Bool.and_eq_true, decide_eq_true_iff, key]
  constructor
  · rintro ⟨h1, h2, h3⟩
    exact ⟨h1, h2, fun h => absurd (h3 0 h) (Nat.lt_irrefl 0)⟩
  · rintro ⟨h1, h2, h3⟩
    refine ⟨h1, h2, fun x hx => ?_⟩
    refine Nat.pos_of_ne_zero fun h => ?_
    rw [h] at hx
    exact h3 hx
theorem inB_iff (a b : List Nat) : inB a b = true ↔ ∀ x ∈ a, x ∈ b := by
  unfold inB
  rw [List.all_eq_true]
  constructor
  · intro h x hx
    exact of_decide_eq_true (h x hx)
  · intro h x hx
    exact decide_eq_true (h x hx)
theorem mem_keep (a b : List Nat) (x : Nat) : x ∈ keepL b true a ↔ x ∈ a ∧ x ∈ b := by
  unfold keepL delB
  rw [List.mem_filter]
  simp
theorem mem_keepF (a b : List Nat) (x : Nat) : x ∈ keepL b false a ↔ x ∈ a ∧ x ∉ b := by
  unfold keepL delB
  rw [List.mem_filter]
  simp
theorem right_keep {a b : List Nat} {c : Bool} (h : rightB a = true) : rightB (keepL b c a) = true := by
  rw [rightB_iff] at h ⊢
  obtain ⟨h1, h2, h3⟩ := h
  refine ⟨Nat.le_trans (List.length_filter_le ..) h1, h2.sublist List.filter_sublist, fun h => h3 (List.mem_filter.1 h).1⟩
theorem bounds_no (a b c : List Nat) (p q r : Bool) (hno : ¬ (p = true ∧ q = true ∧ r = true)) (ha : ACalls Try.prog 13 [us a] [] (Ret (bo p))) (hb : ACalls Try.prog 13 [us b] [] (Ret (bo q))) (hc : ACalls Try.prog 13 [us c] [] (Ret (bo r))) : ACalls Try.prog 6 [us a, us b, us c] [] (Ret (bo true)) := by
  cases p with
  | false =>
    refine acalls_of_awp hT mixed Try.func6 rfl (by kernel_rfl) (by kernel_rfl) (Nat.le_of_ble_eq_true rfl) ?_
    refine callP awakeL_ok rfl rfl ?_
    refine callP ha rfl rfl ?_
    refine end0 rfl rfl rfl rfl
  | true =>
    cases q with
    | false =>
      refine acalls_of_awp hT mixed Try.func6 rfl (by kernel_rfl) (by kernel_rfl) (Nat.le_of_ble_eq_true rfl) ?_
      refine callP awakeL_ok rfl rfl ?_
      refine callP ha rfl rfl ?_
      refine callP hb rfl rfl ?_
      refine end0 rfl rfl rfl rfl
    | true =>
      cases r with
      | false =>
        refine acalls_of_awp hT mixed Try.func6 rfl (by kernel_rfl) (by kernel_rfl) (Nat.le_of_ble_eq_true rfl) ?_
        refine callP awakeL_ok rfl rfl ?_
        refine callP ha rfl rfl ?_
        refine callP hb rfl rfl ?_
        refine callP hc rfl rfl ?_
        refine end0 rfl rfl rfl rfl
      | true => exact absurd ⟨rfl, rfl, rfl⟩ hno
theorem bounds_walk (a b c m j : List Nat) (e : Int) (u v w : Bool) (hl : j.length < 1000) (ha : ACalls Try.prog 13 [us a] [] (Ret (bo true))) (hb : ACalls Try.prog 13 [us b] [] (Ret (bo true))) (hc : ACalls Try.prog 13 [us c] [] (Ret (bo true))) (cj : ACalls Try.prog 22 [us a, us b] [] (Ret (.tup [us j, i64 e]))) (cm : ACalls Try.prog 23 [us a, us b] [] (Ret (us m)))
    (ima : ACalls Try.prog 24 [us m, us a] [] (Ret (bo true))) (imb : ACalls Try.prog 24 [us m, us b] [] (Ret (bo true))) (icm : ACalls Try.prog 24 [us c, us m] [] (Ret (bo (u && v)))) (ica : ACalls Try.prog 24 [us c, us a] [] (Ret (bo u))) (icb : ACalls Try.prog 24 [us c, us b] [] (Ret (bo v))) (rm : ACalls Try.prog 12 [us m] [] (Ret (bo true)))
    (hk : e = 0 → (ACalls Try.prog 24 [us a, us j] [] (Ret (bo true))) ∧ (ACalls Try.prog 24 [us b, us j] [] (Ret (bo true))) ∧ (∃ w z, (ACalls Try.prog 24 [us j, us c] [] (Ret (bo (w && z)))) ∧ (ACalls Try.prog 24 [us a, us c] [] (Ret (bo w))) ∧ (ACalls Try.prog 24 [us b, us c] [] (Ret (bo z)))) ∧ (ACalls Try.prog 12 [us j] [] (Ret (bo true)))) : ACalls Try.prog 6 [us a, us b, us c] [] (Ret (bo true)) := by
  cases u <;> cases v <;>
  · refine acalls_of_awp hT mixed Try.func6 rfl (by kernel_rfl) (by kernel_rfl) (Nat.le_of_ble_eq_true rfl) ?_
    refine callP awakeL_ok rfl rfl ?_
    refine callP ha rfl rfl ?_
    refine callP hb rfl rfl ?_
    refine callP hc rfl rfl ?_
    refine callP cj rfl rfl ?_
    refine callP cm rfl rfl ?_
    refine callP ima rfl rfl ?_
    refine callP imb rfl rfl ?_
    refine callP icm rfl rfl ?_
    refine callP ica rfl rfl ?_
    try refine callP icb rfl rfl ?_
    refine callP rm rfl rfl ?_
    refine fork (fun g => ?_) (fun g => ?_)
    · refine end0 rfl rfl rfl rfl
    · have he : e = 0 := bne_eq_false_iff_eq.1 g
      obtain ⟨iaj, ibj, ⟨w, z, ijc, iac, ibc⟩, rj⟩ := hk he
      cases w <;> cases z <;>
      · refine callP iaj rfl rfl ?_
        refine callP ibj rfl rfl ?_
        refine callP ijc rfl rfl ?_
        refine callP iac rfl rfl ?_
        try refine callP ibc rfl rfl ?_
        refine callP rj rfl rfl ?_
        refine end0 rfl rfl rfl rfl
theorem ofP_ok {tags : List Nat} (h0 : 0 ∉ tags) : (6 < (ofL tags).length ∧ ofP tags = ([], 5)) ∨ (rightB (ofL tags) = true ∧ ofP tags = (ofL tags, 0)) := by
  by_cases h6 : 6 < (ofL tags).length
  · exact .inl ⟨h6, by unfold ofP; rw [if_neg h0, if_pos h6]⟩
  · exact .inr ⟨(rightB_iff _).2 ⟨by omega, srt_ofL tags, by rw [mem_ofL]; exact h0⟩, by unfold ofP; rw [if_neg h0, if_neg h6]⟩
theorem inB_dec (a b : List Nat) {p : Bool} (h : (∀ x ∈ a, x ∈ b) ↔ p = true) : inB a b = p := by
  cases p with
  | true => exact (inB_iff a b).2 (h.2 rfl)
  | false =>
    rw [Bool.eq_false_iff]
    intro hh
    have := h.1 ((inB_iff a b).1 hh)
    cases this
theorem labelBounds_law (l0 : List AV) (w0 : Wf (.slice (.int .u64)) l0) (l1 : List AV) (w1 : Wf (.slice (.int .u64)) l1) (l2 : List AV) (w2 : Wf (.slice (.int .u64)) l2) : ACalls Try.prog 6 [argA (.slice (.int .u64)) l0, argA (.slice (.int .u64)) l1, argA (.slice (.int .u64)) l2] [] (Ret (.sc (.bool true))) := by
  obtain ⟨a, rfl, _, ha⟩ := wf_nats w0
  obtain ⟨b, rfl, _, hb⟩ := wf_nats w1
  obtain ⟨c, rfl, _, hc⟩ := wf_nats w2
  show ACalls Try.prog 6 [us a, us b, us c] [] (Ret (bo true))
  have ra := rright_ok a ha
  have rb := rright_ok b hb
  have rc := rright_ok c hc
  by_cases hall : rightB a = true ∧ rightB b = true ∧ rightB c = true
  · obtain ⟨h1, h2, h3⟩ := hall
    rw [h1] at ra
    rw [h2] at rb
    rw [h3] at rc
    have la := rightB_len h1
    have lb := rightB_len h2
    have lc := rightB_len h3
    have cj := join_ok a b (by omega) (by omega)
    have hj : joinP a b = ofP (a ++ b) := by unfold joinP; rw [if_pos ⟨h1, h2⟩]
    rw [hj] at cj
    have cm := meet_ok a b (by omega) (by omega)
    have hm : keptP a b true = keepL b true a := by unfold keptP; rw [if_pos ⟨h1, h2⟩]
    rw [hm] at cm
    have lm : (keepL b true a).length ≤ 6 := rightB_len (right_keep h1)
    have h0 : 0 ∉ a ++ b := fun h => by
      rcases List.mem_append.1 h with h | h
      · exact ((rightB_iff a).1 h1).2.2 h
      · exact ((rightB_iff b).1 h2).2.2 h
    have ljf : (ofP (a ++ b)).1.length < 1000 := by
      have := len_ofL (a ++ b)
      rw [List.length_append] at this
      rcases ofP_ok h0 with ⟨_, h⟩ | ⟨_, h⟩
      · rw [h]; decide
      · rw [h]; show (ofL (a ++ b)).length < 1000; omega
    have ima := in_ok (keepL b true a) a (by omega) (by omega)
    rw [(inB_iff _ _).2 fun x hx => ((mem_keep a b x).1 hx).1] at ima
    have imb := in_ok (keepL b true a) b (by omega) (by omega)
    rw [(inB_iff _ _).2 fun x hx => ((mem_keep a b x).1 hx).2] at imb
    have icm := in_ok c (keepL b true a) (by omega) (by omega)
    have e1 : inB c (keepL b true a) = (inB c a && inB c b) := inB_dec _ _ (by
      rw [Bool.and_eq_true, inB_iff, inB_iff]
      constructor
      · intro h
        exact ⟨fun x hx => ((mem_keep a b x).1 (h x hx)).1, fun x hx => ((mem_keep a b x).1 (h x hx)).2⟩
      · rintro ⟨h5, h6⟩ x hx
        exact (mem_keep a b x).2 ⟨h5 x hx, h6 x hx⟩)
    rw [e1] at icm
    have rm := right_ok (keepL b true a) (by omega)
    rw [right_keep h1] at rm
    refine bounds_walk a b c _ _ _ _ _ true ljf ra rb rc cj cm ima imb icm (in_ok c a (by omega) (by omega)) (in_ok c b (by omega) (by omega)) rm fun he => ?_
    rcases ofP_ok h0 with ⟨_, h⟩ | ⟨hr, h⟩
    · rw [h] at he
      exact absurd he (by decide)
    · rw [h] at ljf ⊢
      have ljf' : (ofL (a ++ b)).length < 1000 := ljf
      have iaj := in_ok a (ofL (a ++ b)) (by omega) (by omega)
      rw [(inB_iff _ _).2 fun x hx => (mem_ofL _ x).2 (List.mem_append_left _ hx)] at iaj
      have ibj := in_ok b (ofL (a ++ b)) (by omega) (by omega)
      rw [(inB_iff _ _).2 fun x hx => (mem_ofL _ x).2 (List.mem_append_right _ hx)] at ibj
      have ijc := in_ok (ofL (a ++ b)) c (by omega) (by omega)
      have e2 : inB (ofL (a ++ b)) c = (inB a c && inB b c) := inB_dec _ _ (by
        rw [Bool.and_eq_true, inB_iff, inB_iff]
        constructor
        · intro h
          exact ⟨fun x hx => h x ((mem_ofL _ x).2 (List.mem_append_left _ hx)), fun x hx => h x ((mem_ofL _ x).2 (List.mem_append_right _ hx))⟩
        · rintro ⟨h5, h6⟩ x hx
          rcases List.mem_append.1 ((mem_ofL _ x).1 hx) with hx | hx
          · exact h5 x hx
          · exact h6 x hx)
      rw [e2] at ijc
      have rj := right_ok (ofL (a ++ b)) (by omega)
      rw [hr] at rj
      exact ⟨iaj, ibj, ⟨_, _, ijc, in_ok a c (by omega) (by omega), in_ok b c (by omega) (by omega)⟩, rj⟩
  · exact bounds_no a b c _ _ _ hall ra rb rc
end Go.Proofs.Ytmfifbclldnpkaa.A
