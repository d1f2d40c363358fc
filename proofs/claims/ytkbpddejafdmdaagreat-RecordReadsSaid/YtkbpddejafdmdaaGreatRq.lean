/- record: Unbase; RecordBases. No condition. -/
import Derived.Test.YtkbpddejafdmdaaGreatRp
import Derived.Test.YtkbpddejafdmdaaGreatRn
namespace Go.Proofs.YtkbpddejafdmdaaGreat.A
open Go
set_option linter.unusedVariables false
set_option linter.unusedSimpArgs false
set_option maxRecDepth 100000
set_option pp.maxSteps 400

theorem en_frz0 (H : Heap) (m k : Nat) (w : En) : mapO (frz0 H m (k + 1)) (enC w) = some (enC w) := rfl
theorem renO_en (r : Nat → Nat) (L : List En) : renO r (.row (flat enC L)) = .row (flat enC L) := renO_flat (fun _ _ => rfl) r L
theorem sh_ntt : shP [110, 116, 116] = some [(110, false), (116, false), (116, false)] := by decide
def enP (t : ByteArray) : Option (En × Nat) :=
  match begP [110, 116, 116] t with
  | .ok [.mk a _ _ _, .mk _ k _ _, .mk _ v _ _] m =>
    if a ≤ 1073741824 then
      if (upV v).2.2.2 = 0 then some (⟨k, (a : Nat), (upV v).1, (upV v).2.1, (upV v).2.2.1⟩, m) else none
    else none
  | _ => none
theorem enP_le {t : ByteArray} {w : En} {m : Nat} (h : enP t = some (w, m)) : 0 < m ∧ m ≤ t.size := by
  unfold enP at h
  cases hp : begP [110, 116, 116] t with
  | err e => rw [hp] at h; cases h
  | ok l j =>
    rw [hp] at h
    have h1 := begP_pos sh_ntt hp
    have h2 := begP_le hp
    match l, h with
    | [.mk g _ _ _, .mk _ k _ _, .mk _ v _ _], h =>
      dsimp only at h
      split at h
      · split at h
        · cases h; exact ⟨h1, h2⟩
        · cases h
      · cases h
def unbP (s : ByteArray) : Option (Nat × List En) :=
  match hdP 2 s with
  | none => none
  | some (q, m) => match manyP enP (rest s m).size (rest s m) with
    | none => none
    | some L => if basedB (q : Int) L = true then some (q, L) else none
def UbR (o : Option (Nat × List En)) : AEnd → Heap → Prop := fun E G => G = [] ∧ match o with
  | some (q, L) => E = .ret (.tup [i64 (q : Nat), enV L, i64 0])
  | none => ∃ q : Int, E = .ret (.tup [i64 q, nilS, i64 4]) ∨ E = .ret (.tup [i64 q, .junk, i64 4]) ∨ ∃ L, E = .ret (.tup [i64 q, enV L, i64 4])
structure UbSt (s : ByteArray) (M : Option (List En)) where
  L : List En
  p : Nat
  n : Nat
  hn : (rest s p).size ≤ n
  hL : L.length + n ≤ 1000000
  eq : M = (manyP enP n (rest s p)).map (L ++ ·)
theorem belowH_en (L : List En) : belowH 3 [.row [.sc (.int .i64 0)], .dead, .row (flat enC L)] = true := by
  have h : belowL 3 (flat enC L) = true := belowL_flat (fun _ => rfl) L
  simp only [belowH, belowO, h]
  rfl
theorem belowH_en4 (L : List En) : belowH 3 [.row [.sc (.int .i64 4)], .dead, .row (flat enC L)] = true := by
  have h : belowL 3 (flat enC L) = true := belowL_flat (fun _ => rfl) L
  simp only [belowH, belowO, h]
  rfl
theorem unbase_ok (s : ByteArray) (hs : s.size ≤ 1000000) : ACalls Tryz.prog 20 [str s] [] (UbR (unbP s)) := by
  have hc := head_ok 2 s (by decide) hs
  unfold unbP
  cases hp : hdP 2 s with
  | none =>
    rw [hp] at hc
    refine acalls_of_awpU [] hT mixed Tryz.func20 rfl (by kernel_rfl) (by kernel_rfl) (Nat.le_of_ble_eq_true rfl) ?_
    refine callS hc [1] ⟨.inl rfl, True.intro⟩ rfl ?_
    rintro E G ⟨rfl, rfl⟩ _
    refine ⟨_, _, rfl, rfl, ?_⟩
    refine acallsD_of_rec hT mixed Tryz.func29 rfl (by kernel_rfl) (by kernel_rfl) rfl rfl rfl (plain_wrg) (Nat.le_of_ble_eq_true rfl) ?_
    exact ⟨rfl, [.row [i64 4], .dead], _, ⟨⟨_, rfl, rfl⟩, ⟨.inl rfl, .inl rfl, True.intro⟩, Nat.le_of_ble_eq_true rfl, rfl⟩, True.intro, [], .tup [i64 0, nilS, i64 4], ⟨⟨_, rfl, rfl⟩, True.intro, Nat.zero_le _, rfl⟩, rfl, 0, .inl rfl⟩
  | some qm =>
    obtain ⟨q, m⟩ := qm
    rw [hp] at hc
    obtain ⟨hm, hq⟩ := hdP_le hp
    dsimp only
    have hM : ∃ M, M = manyP enP (rest s m).size (rest s m) := ⟨_, rfl⟩
    obtain ⟨M, hM⟩ := hM
    rw [← hM]
    refine acalls_of_awpU [] hT mixed Tryz.func20 rfl (by kernel_rfl) (by kernel_rfl) (Nat.le_of_ble_eq_true rfl) ?_
    refine callS hc [1] ⟨.inl rfl, True.intro⟩ rfl ?_
    rintro E G ⟨rfl, rfl⟩ _
    refine ⟨_, _, rfl, rfl, ?_⟩
    refine loopG (α := UbSt s M) (fun x => [(2, i64 (q : Nat)), (3, .slc 2 0 x.L.length 5), (4, .ptr 0 0), (5, .ptr 1 0)]) (fun x => [.row [i64 0], .row [str (rest s x.p)], .row (flat enC x.L)]) [⟨29, [], [.ptr 0 0, i64 4]⟩] (fun x => x.n)
      ⟨[], m, (rest s m).size, Nat.le_refl _, by rw [rest_size]; simp only [List.length_nil]; omega, by rw [hM]; cases manyP enP (rest s m).size (rest s m) <;> rfl⟩ [.at_ 3 5] [0, 1, 2] ⟨⟨rfl, rfl, rfl, rfl, True.intro⟩, ⟨.inl rfl, .inl rfl, .inl rfl, True.intro⟩, rfl, rfl, rfl⟩ ?_
    rintro ⟨L, p, n, hn, hL, eq⟩ K hK
    dsimp only at hn hL eq ⊢
    have hr := strEq_nilS (rest s p)
    by_cases hz : (rest s p).size = 0
    · rw [decide_eq_true hz] at hr
      rw [manyP_end hz] at eq
      have eq' : M = some L := by rw [eq]; simp
      rw [eq']
      dsimp only
      refine fork (fun g => absurd hr (by simpa using g)) (fun _ => ?_)
      have hmm := based_ok (q : Nat) L (by omega)
      have hf : ∀ (H : Heap), nth H 2 = some (.row (flat enC L)) → mapO (frz H 0 8) [i64 (q : Nat), .slc 2 0 L.length 5] = some [i64 (q : Nat), enV L] := fun H h => by
        have hfz : frz H 0 8 (.slc 2 0 L.length 5) = some (enV L) := frz_flatG (m := 0) (k := 6) enC_len en_frz0 h rfl rfl
        simp only [mapO, hfz]
        rfl
      cases hmay : basedB (q : Nat) L with
      | true =>
        rw [hmay] at hmm
        rw [if_pos rfl]
        refine callF hmm (hf _ rfl) rfl ?_
        refine callP must_yes rfl rfl ?_
        refine acallsD_of_rec hT mixed Tryz.func29 rfl (by kernel_rfl) (by kernel_rfl) rfl rfl rfl (fun u b h => by cases h) (Nat.le_of_ble_eq_true rfl) ?_
        refine ⟨rfl, [.row [i64 0], .dead, .row (flat enC L)], _, ⟨⟨_, rfl, rfl⟩, ⟨.inl rfl, .inr rfl, .inl rfl, True.intro⟩, Nat.le_of_ble_eq_true rfl, belowH_en L⟩, True.intro, [], .tup [i64 (q : Nat), enV L, i64 0], ⟨⟨_, rfl, ?_⟩, True.intro, Nat.zero_le _, rfl⟩, rfl, rfl⟩
        have hfz : frz [.row [i64 0], .dead, .row (flat enC L)] 0 7 (.slc 2 0 L.length 5) = some (enV L) := frz_flatG (m := 0) (k := 5) enC_len en_frz0 rfl rfl rfl
        exact frz_tup (k := 7) (show mapO (frz [.row [i64 0], .dead, .row (flat enC L)] 0 7) [i64 (q : Nat), .slc 2 0 L.length 5, i64 0] = some [i64 (q : Nat), enV L, i64 0] from by simp only [mapO, hfz]; rfl)
      | false =>
        rw [hmay] at hmm
        rw [if_neg (fun hh => by cases hh)]
        refine callF hmm (hf _ rfl) rfl ?_
        refine callBad must_no rfl ?_
        refine acallsD_of_rec hT mixed Tryz.func29 rfl (by kernel_rfl) (by kernel_rfl) rfl rfl rfl (plain_wrg) (Nat.le_of_ble_eq_true rfl) ?_
        refine ⟨rfl, [.row [i64 4], .dead, .row (flat enC L)], _, ⟨⟨_, rfl, rfl⟩, ⟨.inl rfl, .inr rfl, .inl rfl, True.intro⟩, Nat.le_of_ble_eq_true rfl, belowH_en4 L⟩, True.intro, [], .tup [i64 (q : Nat), enV L, i64 4], ⟨⟨_, rfl, ?_⟩, True.intro, Nat.zero_le _, rfl⟩, rfl, _, .inr (.inr ⟨L, rfl⟩)⟩
        have hfz : frz [.row [i64 4], .dead, .row (flat enC L)] 0 7 (.slc 2 0 L.length 5) = some (enV L) := frz_flatG (m := 0) (k := 5) enC_len en_frz0 rfl rfl rfl
        exact frz_tup (k := 7) (show mapO (frz [.row [i64 4], .dead, .row (flat enC L)] 0 7) [i64 (q : Nat), .slc 2 0 L.length 5, i64 4] = some [i64 (q : Nat), enV L, i64 4] from by simp only [mapO, hfz]; rfl)
    · rw [decide_eq_false hz] at hr
      refine fork (fun _ => ?_) (fun g => absurd hr (by simpa using g))
      have hw := part_ok ⟨#[110, 116, 116]⟩ (rest s p) (by decide) (by rw [rest_size]; omega)
      rw [show byL ⟨#[110, 116, 116]⟩ = [110, 116, 116] from rfl] at hw
      have none_ : enP (rest s p) = none → M = none := fun hh => by rw [manyP_none hz hh] at eq; rw [eq]; rfl
      cases hbp : begP [110, 116, 116] (rest s p) with
      | err e =>
        rw [hbp] at hw
        rw [none_ (by unfold enP; rw [hbp])]
        dsimp only
        refine callS hw [1] ⟨.inl rfl, True.intro⟩ rfl ?_
        rintro E G ⟨rfl, rfl⟩ _
        refine ⟨_, _, rfl, rfl, ?_⟩
        refine acallsD_of_rec hT mixed Tryz.func29 rfl (by kernel_rfl) (by kernel_rfl) rfl rfl rfl (plain_wrg) (Nat.le_of_ble_eq_true rfl) ?_
        refine ⟨rfl, [.row [i64 4], .dead, .row (flat enC L)], _, ⟨⟨_, rfl, rfl⟩, ⟨.inl rfl, .inr rfl, .inl rfl, True.intro⟩, Nat.le_of_ble_eq_true rfl, belowH_en4 L⟩, True.intro, [], .tup [i64 (q : Nat), enV L, i64 4], ⟨⟨_, rfl, ?_⟩, True.intro, Nat.zero_le _, rfl⟩, rfl, _, .inr (.inr ⟨L, rfl⟩)⟩
        have hfz : frz [.row [i64 4], .dead, .row (flat enC L)] 0 7 (.slc 2 0 L.length 5) = some (enV L) := frz_flatG (m := 0) (k := 5) enC_len en_frz0 rfl rfl rfl
        exact frz_tup (k := 7) (show mapO (frz [.row [i64 4], .dead, .row (flat enC L)] 0 7) [i64 (q : Nat), .slc 2 0 L.length 5, i64 4] = some [i64 (q : Nat), enV L, i64 4] from by simp only [mapO, hfz]; rfl)
      | ok l k =>
        rw [hbp] at hw
        have hl := begP_length sh_ntt hbp
        match l, hl with
        | [.mk a s1 l1 k1, .mk b s2 l2 k2, .mk c s3 l3 k3], _ =>
          have h0 : (0 : Int) ≤ 0 ∧ (0 : Int) < ((3 : Nat) : Int) := by omega
          have h1 : (0 : Int) ≤ 1 ∧ (1 : Int) < ((3 : Nat) : Int) := by omega
          have h2 : (0 : Int) ≤ 2 ∧ (2 : Int) < ((3 : Nat) : Int) := by omega
          by_cases ha : a ≤ 1073741824
          · have hsm := small_ok a s1 l1 k1 ha
            have hwo := worth_ok s3
            unfold WorthR at hwo
            by_cases he : (upV s3).2.2.2 = 0
            · simp only [if_pos he] at hwo
              have hwp : enP (rest s p) = some (⟨s2, (a : Nat), (upV s3).1, (upV s3).2.1, (upV s3).2.2.1⟩, k) := by
                unfold enP
                rw [hbp]
                show (if a ≤ 1073741824 then (if (upV s3).2.2.2 = 0 then some _ else none) else none) = _
                rw [if_pos ha, if_pos he]
              obtain ⟨hk0, hk1⟩ := enP_le hwp
              rw [rest_size] at hk1 hn hz
              obtain ⟨n, rfl⟩ : ∃ n', n = n' + 1 := ⟨n - 1, by omega⟩
              rw [manyP_some (by rw [rest_size]; exact hz) hwp, map_snoc, rest_rest] at eq
              have hob : (L.length + 1) * 56 ≤ 140737488355328 ∧ L.length + 1 ≤ 9223372036854775807 := by omega
              generalize (upV s3).1 = vn at *
              generalize (upV s3).2.1 = vt at *
              generalize (upV s3).2.2.1 = vb at *
              refine callS hw [1] ⟨.inl rfl, True.intro⟩ rfl ?_
              rintro E G ⟨rfl, rfl⟩ _
              refine ⟨_, [.row [i64 0], .row [str (rest s (p + k))], .row (flat enC L)], rfl, by rw [rest_rest]; show [_, _, _] = _; simp only [renH, renO_en]; rfl, ?_⟩
              cases vn <;>
              · refine ⟨[0, 0, 0, 0, 1, 0, 0, 0, 0, 0, 0, 0, 0, 2, 2, 2, 3, 3], [[], [], [1], [1, 2], [1, 2, 3], [], [5], [5, 6], [5, 6, 7], [], [9], [9, 10], [9, 10, 11], [1, 2, 3, 4, 9, 10, 11, 12], [1, 2, 3, 4, 5, 6, 7, 8, 9, 10, 11, 12, 13], [1, 2, 3, 4, 5, 6, 7, 8, 9, 10, 11, 12, 13, 14], [0, 1, 2, 3, 4, 5, 6, 7, 8, 9, 10, 11, 12, 13, 14, 15], [0, 1, 2, 3, 4, 5, 6, 7, 8, 9, 10, 11, 12, 13, 14, 15, 16]], [0, 0, 0, 0, 0, 0, 0, 0, 0, 0, 0, 0, 0, 0, 0, 0, 1, 1], [4, 13, 16], [[3], [6], [20], [21], [22], [6], [24], [25], [26], [6], [28], [29], [30], [31], [23, 27, 32], [33], [19, 34], [35]], Ob.intro (by kernel_rfl) ?_⟩
                repeat first | refine same ?_ | refine Ob.intro h0 ?_ | refine Ob.intro h1 ?_ | refine Ob.intro h2 ?_
                refine callP hsm rfl rfl ?_
                repeat first | refine same ?_ | refine Ob.intro h0 ?_ | refine Ob.intro h1 ?_ | refine Ob.intro h2 ?_
                refine callS hwo [] True.intro rfl ?_
                rintro E G ⟨rfl, rfl⟩ _
                refine ⟨_, _, rfl, rfl, ?_⟩
                repeat first | refine same ?_ | refine Ob.intro h0 ?_ | refine Ob.intro h1 ?_ | refine Ob.intro h2 ?_
                refine Ob.intro rfl ?_
                refine optK_intro (rdN_all (cs := flat enC L) rfl (by rw [flat_len enC_len])) ?_
                refine Ob.intro hob ?_
                repeat first | refine same ?_ | refine Ob.intro h0 ?_ | refine Ob.intro h1 ?_ | refine Ob.intro h2 ?_
                refine hK ⟨L ++ [⟨s2, (a : Nat), _, vt, vb⟩], p + k, n, by rw [rest_size]; omega, by rw [List.length_append]; simp only [List.length_cons, List.length_nil]; omega, eq⟩ [] [0, 1, 4] _ rfl ⟨⟨rfl, ?_, rfl, rfl, True.intro⟩, ⟨.inl rfl, .inl rfl, .inl ?_, True.intro⟩, rfl, rfl, rfl⟩
                · show AV.slc 4 0 (L.length + 1) 5 = .slc 4 0 (L ++ [_]).length 5
                  rw [List.length_append]
                  rfl
                · show some (AObj.row (flat enC L ++ enC ⟨s2, (a : Nat), _, vt, vb⟩)) = some (renO _ (.row (flat enC (L ++ [_]))))
                  rw [renO_en, flat_append]
                  rfl
            · simp only [if_neg he] at hwo
              rw [none_ (by
                unfold enP
                rw [hbp]
                show (if a ≤ 1073741824 then (if (upV s3).2.2.2 = 0 then some _ else none) else none) = _
                rw [if_pos ha, if_neg he])]
              dsimp only
              refine callS hw [1] ⟨.inl rfl, True.intro⟩ rfl ?_
              rintro E G ⟨rfl, rfl⟩ _
              refine ⟨_, _, rfl, rfl, ?_⟩
              refine ⟨[0, 0, 0, 0, 1, 0, 0, 0, 0, 0, 0, 0, 0, 2, 2, 2, 3, 3], [[], [], [1], [1, 2], [1, 2, 3], [], [5], [5, 6], [5, 6, 7], [], [9], [9, 10], [9, 10, 11], [1, 2, 3, 4, 9, 10, 11, 12], [1, 2, 3, 4, 5, 6, 7, 8, 9, 10, 11, 12, 13], [1, 2, 3, 4, 5, 6, 7, 8, 9, 10, 11, 12, 13, 14], [0, 1, 2, 3, 4, 5, 6, 7, 8, 9, 10, 11, 12, 13, 14, 15], [0, 1, 2, 3, 4, 5, 6, 7, 8, 9, 10, 11, 12, 13, 14, 15, 16]], [0, 0, 0, 0, 0, 0, 0, 0, 0, 0, 0, 0, 0, 0, 0, 0, 1, 1], [4, 13, 16], [[3], [6], [20], [21], [22], [6], [24], [25], [26], [6], [28], [29], [30], [31], [23, 27, 32], [33], [19, 34], [35]], Ob.intro (by kernel_rfl) ?_⟩
              repeat first | refine same ?_ | refine Ob.intro h0 ?_ | refine Ob.intro h1 ?_ | refine Ob.intro h2 ?_
              refine callP hsm rfl rfl ?_
              repeat first | refine same ?_ | refine Ob.intro h0 ?_ | refine Ob.intro h1 ?_ | refine Ob.intro h2 ?_
              refine callS hwo [] True.intro rfl ?_
              rintro E G ⟨rfl, rfl⟩ _
              refine ⟨_, _, rfl, rfl, ?_⟩
              refine acallsD_of_rec hT mixed Tryz.func29 rfl (by kernel_rfl) (by kernel_rfl) rfl rfl rfl (plain_wrg) (Nat.le_of_ble_eq_true rfl) ?_
              exact ⟨rfl, [.row [i64 4], .dead, .dead, .dead], _, ⟨⟨_, rfl, rfl⟩, ⟨.inl rfl, .inr rfl, .inr rfl, .inr rfl, True.intro⟩, Nat.le_of_ble_eq_true rfl, rfl⟩, True.intro, [], .tup [i64 (q : Nat), .junk, i64 4], ⟨⟨_, rfl, rfl⟩, True.intro, Nat.zero_le _, rfl⟩, rfl, _, .inr (.inl rfl)⟩
          · have hsm := small_no a s1 l1 k1 ha
            rw [none_ (by
              unfold enP
              rw [hbp]
              show (if a ≤ 1073741824 then (if (upV s3).2.2.2 = 0 then some _ else none) else none) = _
              rw [if_neg ha])]
            dsimp only
            refine callS hw [1] ⟨.inl rfl, True.intro⟩ rfl ?_
            rintro E G ⟨rfl, rfl⟩ _
            refine ⟨_, _, rfl, rfl, ?_⟩
            refine ⟨[0, 0, 0, 0, 1, 0, 0, 0, 0, 0, 0, 0, 0, 2, 2, 2, 3, 3], [[], [], [1], [1, 2], [1, 2, 3], [], [5], [5, 6], [5, 6, 7], [], [9], [9, 10], [9, 10, 11], [1, 2, 3, 4, 9, 10, 11, 12], [1, 2, 3, 4, 5, 6, 7, 8, 9, 10, 11, 12, 13], [1, 2, 3, 4, 5, 6, 7, 8, 9, 10, 11, 12, 13, 14], [0, 1, 2, 3, 4, 5, 6, 7, 8, 9, 10, 11, 12, 13, 14, 15], [0, 1, 2, 3, 4, 5, 6, 7, 8, 9, 10, 11, 12, 13, 14, 15, 16]], [0, 0, 0, 0, 0, 0, 0, 0, 0, 0, 0, 0, 0, 0, 0, 0, 1, 1], [4, 13, 16], [[3], [6], [20], [21], [22], [6], [24], [25], [26], [6], [28], [29], [30], [31], [23, 27, 32], [33], [19, 34], [35]], Ob.intro (by kernel_rfl) ?_⟩
            repeat first | refine same ?_ | refine Ob.intro h0 ?_ | refine Ob.intro h1 ?_ | refine Ob.intro h2 ?_
            refine callBad hsm rfl ?_
            refine acallsD_of_rec hT mixed Tryz.func29 rfl (by kernel_rfl) (by kernel_rfl) rfl rfl rfl (plain_wrg) (Nat.le_of_ble_eq_true rfl) ?_
            exact ⟨rfl, [.row [i64 4], .dead, .dead, .dead], _, ⟨⟨_, rfl, rfl⟩, ⟨.inl rfl, .inr rfl, .inr rfl, .inr rfl, True.intro⟩, Nat.le_of_ble_eq_true rfl, rfl⟩, True.intro, [], .tup [i64 (q : Nat), .junk, i64 4], ⟨⟨_, rfl, rfl⟩, True.intro, Nat.zero_le _, rfl⟩, rfl, _, .inr (.inl rfl)⟩
def ubA (o : Option (Nat × List En)) : AV := match o with
  | some (q, L) => .tup [i64 (q : Nat), enV L, i64 0]
  | none => .tup [i64 0, nilS, i64 4]
theorem unbaseU_ok (s : ByteArray) (hs : s.size ≤ 1000000) : ACalls Tryz.prog 6 [str s] [] (Ret (ubA (unbP s))) := by
  have hc := unbase_ok s hs
  cases hu : unbP s with
  | none =>
    rw [hu] at hc
    refine acalls_of_awp hT mixed Tryz.func6 rfl (by kernel_rfl) (by kernel_rfl) (Nat.le_of_ble_eq_true rfl) ?_
    refine callS hc [] True.intro rfl ?_
    rintro E G ⟨rfl, q, rfl | rfl | ⟨L, rfl⟩⟩ _
    · refine ⟨_, _, rfl, rfl, ?_⟩
      exact ⟨rfl, [], (ubA none), ⟨⟨_, rfl, rfl⟩, True.intro, Nat.zero_le _, rfl⟩, rfl, rfl⟩
    · refine ⟨_, _, rfl, rfl, ?_⟩
      exact ⟨rfl, [], (ubA none), ⟨⟨_, rfl, rfl⟩, True.intro, Nat.zero_le _, rfl⟩, rfl, rfl⟩
    · refine ⟨_, _, rfl, rfl, ?_⟩
      exact ⟨rfl, [], (ubA none), ⟨⟨_, rfl, rfl⟩, True.intro, Nat.zero_le _, rfl⟩, rfl, rfl⟩
  | some qL =>
    obtain ⟨q, L⟩ := qL
    rw [hu] at hc
    refine acalls_of_awp hT mixed Tryz.func6 rfl (by kernel_rfl) (by kernel_rfl) (Nat.le_of_ble_eq_true rfl) ?_
    refine callS hc [] True.intro rfl ?_
    rintro E G ⟨rfl, rfl⟩ _
    refine ⟨_, _, rfl, rfl, ?_⟩
    exact ⟨rfl, [], (ubA (some (q, L))), ⟨⟨_, rfl, rfl⟩, True.intro, Nat.zero_le _, rfl⟩, rfl, rfl⟩
end Go.Proofs.YtkbpddejafdmdaaGreat.A
