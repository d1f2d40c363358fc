/- wire: items of a letter are read. No condition. -/
import Derived.Test.YthebddjpnkimjaaWi
namespace Go.Proofs.Ythebddjpnkimjaa.A
open Go
set_option linter.unusedVariables false
set_option linter.unusedSimpArgs false
set_option maxRecDepth 100000
set_option pp.maxSteps 1500

def rdP (c : Nat) (s : ByteArray) : Rs It :=
  if c = 98 then (if s.size = 0 then .err 3 else .ok (.mk (octB s 0) emp [] []) 1)
  else if c = 110 then (match cntP (byL s) with
    | .err e => .err e
    | .ok n k => .ok (.mk n emp [] []) k)
  else if c = 116 then (match cntM 200 (byL s) with
    | .err e => .err e
    | .ok n k => if s.size - k < n then .err 3 else .ok (.mk 0 ((rest s k).extract 0 n) [] []) (k + n))
  else if c = 102 then (if s.size < 8 then .err 3 else if ukE (s.extract 0 8) = 0 then .ok (.mk (bitsB (ukB (s.extract 0 8))) emp [] []) 8 else .err (ukE (s.extract 0 8)))
  else (if (unpL s).e = 0 then .ok (.mk 0 emp (unpL s).l []) (unpL s).n.toNat else .err (unpL s).e)
def RdR (o : Rs It) (s : ByteArray) : AEnd → Heap → Prop := fun E G =>
  match o with
  | .ok x k => E = .ret (itA x) ∧ G = [.row [str (rest s k)]]
  | .err e => E = .pan (fltV e) ∧ G = [.dead]
theorem EndR_agg {cs ds : List AV} (h : ∀ X vs, VL X cs vs → VL X ds vs) : ∀ Y e, EndR Y (.ret (.agg cs)) e → EndR Y (.ret (.agg ds)) e := fun Y e k => by
  cases e with
  | returned v =>
    have k' : VR Y (.agg cs) v := k
    show VR Y (.agg ds) v
    simp only [VR] at k' ⊢
    obtain ⟨w, e, hl⟩ := k'
    exact ⟨w, e, h _ _ hl⟩
  | panicked _ => exact k
  | outgrown => exact k
theorem VL_4 {X : Ctx} {a b c d c' d' : AV} {vs : List Value} (hc : ∀ v, VR X c v → VR X c' v) (hd : ∀ v, VR X d v → VR X d' v) (h : VL X [a, b, c, d] vs) : VL X [a, b, c', d'] vs := by
  match vs, h with
  | [v1, v2, v3, v4], h =>
    simp only [VL] at h ⊢
    exact ⟨h.1, h.2.1, hc _ h.2.2.1, hd _ h.2.2.2.1, trivial⟩
  | [], h => simp [VL] at h
  | [_], h => simp [VL] at h
  | [_, _], h => simp [VL] at h
  | [_, _, _], h => simp [VL] at h
  | _ :: _ :: _ :: _ :: _ :: _, h => simp [VL] at h
theorem EndR_it1 (n : Nat) (s : ByteArray) : ∀ Y e, EndR Y (.ret (.agg [u64n n, str s, nilS, nilS])) e → EndR Y (.ret (itA (.mk n s [] []))) e := EndR_agg fun X vs h => VL_4 (fun _ h => VR_nilView h) (fun _ h => VR_nilView h) h
theorem EndR_it2 (n : Nat) (s : ByteArray) (l : List Nat) : ∀ Y e, EndR Y (.ret (.agg [u64n n, str s, us l, nilS])) e → EndR Y (.ret (itA (.mk n s l []))) e := EndR_agg fun X vs h => VL_4 (fun _ h => h) (fun _ h => VR_nilView h) h
/-- What comes back, as it stands there. -/
def RawR (o : Rs It) (s : ByteArray) : AEnd → Heap → Prop := fun E G =>
  match o with
  | .ok (.mk n t l k) j => k = [] ∧ G = [.row [str (rest s j)]] ∧ (E = .ret (.agg [u64n n, str t, us l, nilS]) ∨ l = [] ∧ E = .ret (.agg [u64n n, str t, nilS, nilS]))
  | .err e => E = .pan (fltV e) ∧ G = [.dead]
theorem raw_rd {o : Rs It} {s : ByteArray} {P : Program} {g : FuncId} {args : List AV} {H : Heap} (h : ACalls P g args H (RawR o s)) : ACalls P g args H (RdR o s) := by
  refine h.weakR ?_
  intro E G hE
  cases o with
  | err e => exact ⟨E, hE, EndR_refl _⟩
  | ok x j =>
    obtain ⟨n, t, l, k⟩ := x
    obtain ⟨rfl, rfl, rfl | ⟨rfl, rfl⟩⟩ := hE
    · exact ⟨_, ⟨rfl, rfl⟩, EndR_it2 n t l⟩
    · exact ⟨_, ⟨rfl, rfl⟩, EndR_it1 n t⟩
theorem pone_b (s : ByteArray) (hs : s.size ≤ 1000000) : ACalls Try.prog 28 [.ptr 0 0, u8n 98] [.row [str s]] (RdR (rdP 98 s) s) := by
  have hr : rdP 98 s = if s.size = 0 then .err 3 else .ok (.mk (octB s 0) emp [] []) 1 := rfl
  rw [hr]
  by_cases h0 : s.size = 0
  · rw [if_pos h0]
    have ht := take_no s 1 (by omega) hs
    refine raw_rd ?_
    refine acalls_of_awp hT mixed Try.func28 rfl (by kernel_rfl) (by kernel_rfl) (Nat.le_of_ble_eq_true rfl) ?_
    refine callBadS (ht) [0] rfl ⟨.inl rfl, True.intro⟩ rfl rfl ?_
    exact ⟨rfl, [.dead], ⟨.inl rfl, True.intro⟩, Nat.le_refl 1, rfl, rfl, rfl⟩
  · rw [if_neg h0]
    have ht := take_ok s 1 (by omega) hs
    have hoc : octB (s.extract 0 1) 0 = octB s 0 := by rw [ext_at (by decide) (by omega)]
    have hsz : (s.extract 0 1).size = 1 := by rw [ext_size (by omega)]
    have hw : wrp .u64 (octB (s.extract 0 1) 0 : Int) = ((octB s 0 : Nat) : Int) := by rw [hoc, wrpE, wu64]; have := octB_lt s 0; omega
    generalize s.extract 0 1 = x at *
    refine raw_rd ?_
    refine acalls_of_awp hT mixed Try.func28 rfl (by kernel_rfl) (by kernel_rfl) (Nat.le_of_ble_eq_true rfl) ?_
    refine callS (ht) [0] ⟨.inl rfl, True.intro⟩ rfl ?_
    rintro E G ⟨rfl, rfl⟩ _
    refine ⟨_, _, rfl, rfl, ?_⟩
    refine Ob.intro (show (0 : Int) ≤ 0 ∧ 0 < (x.size : Int) by omega) ?_
    exact ⟨rfl, [.row [str (rest s 1)]], .agg [u64 (wrp .u64 (octB x 0 : Nat)), str ⟨#[]⟩, nilS, nilS], ⟨⟨_, rfl, rfl⟩, ⟨.inl rfl, True.intro⟩, Nat.le_refl 1, rfl⟩, rfl, rfl, .inr ⟨rfl, by rw [hw]; rfl⟩⟩
theorem pone_n (s : ByteArray) (hs : s.size ≤ 1000000) : ACalls Try.prog 28 [.ptr 0 0, u8n 110] [.row [str s]] (RdR (rdP 110 s) s) := by
  have hr : rdP 110 s = match cntP (byL s) with
    | .err e => .err e
    | .ok n k => .ok (.mk n emp [] []) k := rfl
  rw [hr]
  have hn := pnumber_ok s hs
  cases hc : cntP (byL s) with
  | err e =>
    rw [hc] at hn
    refine raw_rd ?_
    refine acalls_of_awp hT mixed Try.func28 rfl (by kernel_rfl) (by kernel_rfl) (Nat.le_of_ble_eq_true rfl) ?_
    refine callBadS (hn) [0] rfl ⟨.inl rfl, True.intro⟩ rfl rfl ?_
    exact ⟨rfl, [.dead], ⟨.inl rfl, True.intro⟩, Nat.le_refl 1, rfl, rfl, rfl⟩
  | ok n k =>
    rw [hc] at hn
    refine raw_rd ?_
    refine acalls_of_awp hT mixed Try.func28 rfl (by kernel_rfl) (by kernel_rfl) (Nat.le_of_ble_eq_true rfl) ?_
    refine callS (hn) [0] ⟨.inl rfl, True.intro⟩ rfl ?_
    rintro E G ⟨rfl, rfl⟩ _
    refine ⟨_, _, rfl, rfl, ?_⟩
    exact ⟨rfl, [.row [str (rest s k)]], .agg [u64n n, str ⟨#[]⟩, nilS, nilS], ⟨⟨_, rfl, rfl⟩, ⟨.inl rfl, True.intro⟩, Nat.le_refl 1, rfl⟩, rfl, rfl, .inr ⟨rfl, rfl⟩⟩
theorem cntM_lt {m : Nat} {b : List Nat} {n k : Nat} (h : cntM m b = .ok n k) : n ≤ m ∧ 0 < k ∧ k ≤ b.length ∧ cntP b = .ok n k := by
  unfold cntM at h
  cases hc : cntP b with
  | err e => rw [hc] at h; cases h
  | ok n' k' =>
    rw [hc] at h
    dsimp only at h
    split at h
    · rename_i hm
      cases h
      have := cntP_lt hc
      exact ⟨hm, this.2.1, this.2.2, rfl⟩
    · cases h
theorem pone_t (s : ByteArray) (hs : s.size ≤ 1000000) : ACalls Try.prog 28 [.ptr 0 0, u8n 116] [.row [str s]] (RdR (rdP 116 s) s) := by
  have hr : rdP 116 s = match cntM 200 (byL s) with
    | .err e => .err e
    | .ok n k => if s.size - k < n then .err 3 else .ok (.mk 0 ((rest s k).extract 0 n) [] []) (k + n) := rfl
  rw [hr]
  have hn := pcount_ok s 200 hs (by decide)
  cases hc : cntM 200 (byL s) with
  | err e =>
    rw [hc] at hn
    refine raw_rd ?_
    refine acalls_of_awp hT mixed Try.func28 rfl (by kernel_rfl) (by kernel_rfl) (Nat.le_of_ble_eq_true rfl) ?_
    refine callBadS (hn) [0] rfl ⟨.inl rfl, True.intro⟩ rfl rfl ?_
    exact ⟨rfl, [.dead], ⟨.inl rfl, True.intro⟩, Nat.le_refl 1, rfl, rfl, rfl⟩
  | ok n k =>
    rw [hc] at hn
    have hrs := rest_size (s := s) (k := k)
    by_cases h2 : s.size - k < n
    · have ht := take_no (rest s k) n (by omega) (by omega)
      dsimp only
      rw [if_pos h2]
      refine raw_rd ?_
      refine acalls_of_awp hT mixed Try.func28 rfl (by kernel_rfl) (by kernel_rfl) (Nat.le_of_ble_eq_true rfl) ?_
      refine callS (hn) [0] ⟨.inl rfl, True.intro⟩ rfl ?_
      rintro E G ⟨rfl, rfl⟩ _
      refine ⟨_, _, rfl, rfl, ?_⟩
      refine callBadS (ht) [0] rfl ⟨.inl rfl, True.intro⟩ rfl rfl ?_
      exact ⟨rfl, [.dead], ⟨.inl rfl, True.intro⟩, Nat.le_refl 1, rfl, rfl, rfl⟩
    · have ht := take_ok (rest s k) n (by omega) (by omega)
      rw [rest_rest] at ht
      dsimp only
      rw [if_neg h2]
      refine raw_rd ?_
      refine acalls_of_awp hT mixed Try.func28 rfl (by kernel_rfl) (by kernel_rfl) (Nat.le_of_ble_eq_true rfl) ?_
      refine callS (hn) [0] ⟨.inl rfl, True.intro⟩ rfl ?_
      rintro E G ⟨rfl, rfl⟩ _
      refine ⟨_, _, rfl, rfl, ?_⟩
      refine callS (ht) [0] ⟨.inl rfl, True.intro⟩ rfl ?_
      rintro E G ⟨rfl, rfl⟩ _
      refine ⟨_, _, rfl, rfl, ?_⟩
      exact ⟨rfl, [.row [str (rest s (k + n))]], .agg [u64 0, str ((rest s k).extract 0 n), nilS, nilS], ⟨⟨_, rfl, rfl⟩, ⟨.inl rfl, True.intro⟩, Nat.le_refl 1, rfl⟩, rfl, rfl, .inr ⟨rfl, rfl⟩⟩
theorem pone_f (s : ByteArray) (hs : s.size ≤ 1000000) : ACalls Try.prog 28 [.ptr 0 0, u8n 102] [.row [str s]] (RdR (rdP 102 s) s) := by
  have hr : rdP 102 s = if s.size < 8 then .err 3 else if ukE (s.extract 0 8) = 0 then .ok (.mk (bitsB (ukB (s.extract 0 8))) emp [] []) 8 else .err (ukE (s.extract 0 8)) := rfl
  rw [hr]
  by_cases h8 : s.size < 8
  · rw [if_pos h8]
    have ht := take_no s 8 h8 hs
    refine raw_rd ?_
    refine acalls_of_awp hT mixed Try.func28 rfl (by kernel_rfl) (by kernel_rfl) (Nat.le_of_ble_eq_true rfl) ?_
    refine callBadS (ht) [0] rfl ⟨.inl rfl, True.intro⟩ rfl rfl ?_
    exact ⟨rfl, [.dead], ⟨.inl rfl, True.intro⟩, Nat.le_refl 1, rfl, rfl, rfl⟩
  · rw [if_neg h8]
    have ht := take_ok s 8 (by omega) hs
    generalize s.extract 0 8 = x at *
    have hu := unkey_ok x
    have hB := bits_ok (ukB x)
    refine raw_rd ?_
    refine acalls_of_awp hT mixed Try.func28 rfl (by kernel_rfl) (by kernel_rfl) (Nat.le_of_ble_eq_true rfl) ?_
    refine callS (ht) [0] ⟨.inl rfl, True.intro⟩ rfl ?_
    rintro E G ⟨rfl, rfl⟩ _
    refine ⟨_, _, rfl, rfl, ?_⟩
    refine callP hu rfl rfl ?_
    refine fork (fun g => ?_) (fun g => ?_)
    · have g' : ukE x = 0 := beq_iff_eq.1 g
      rw [if_pos g']
      refine callP (check_yes _) rfl rfl ?_
      refine callP hB rfl rfl ?_
      exact ⟨rfl, [.row [str (rest s 8)]], .agg [u64n (bitsB (ukB x)), str ⟨#[]⟩, nilS, nilS], ⟨⟨_, rfl, rfl⟩, ⟨.inl rfl, True.intro⟩, Nat.le_refl 1, rfl⟩, rfl, rfl, .inr ⟨rfl, rfl⟩⟩
    · have g' : ¬ ukE x = 0 := beq_eq_false_iff_ne.1 g
      rw [if_neg g']
      refine callBad (check_no _) rfl ?_
      exact ⟨rfl, [.dead], ⟨.inr rfl, True.intro⟩, Nat.le_refl 1, rfl, rfl, rfl⟩
theorem unpL_n {s : ByteArray} (h : (unpL s).e = 0) : (unpL s).n = ((unpL s).n.toNat : Nat) ∧ (unpL s).n.toNat ≤ s.size ∧ 0 < (unpL s).n.toNat ∧ (unpL s).l.length ≤ 6 ∧ ∀ y ∈ (unpL s).l, y < 18446744073709551616 := by
  unfold unpL at h ⊢
  split at h
  · cases h
  · rename_i h0
    rw [if_neg h0]
    split at h
    · cases h
    · rename_i h1
      rw [if_neg h1]
      split at h
      · cases h
      · rename_i h2
        rw [if_neg h2]
        split at h
        · rename_i h3
          rw [if_pos h3]
          refine ⟨rfl, ?_, ?_, rightB_len h3, tagsB_lt s _⟩
          · show 1 + 8 * octB s 0 ≤ s.size
            omega
          · show 0 < 1 + 8 * octB s 0
            omega
        · cases h
theorem pone_l (s : ByteArray) (hs : s.size ≤ 1000000) : ACalls Try.prog 28 [.ptr 0 0, u8n 108] [.row [str s]] (RdR (rdP 108 s) s) := by
  have hr : rdP 108 s = if (unpL s).e = 0 then .ok (.mk 0 emp (unpL s).l []) (unpL s).n.toNat else .err (unpL s).e := rfl
  rw [hr]
  have hu := lunpack_ok s
  have hn := @unpL_n s
  generalize unpL s = u at *
  obtain ⟨l, n, e⟩ := u
  dsimp only at hu hn ⊢
  refine raw_rd ?_
  by_cases he : e = 0
  · obtain ⟨h1, h2, h3, _⟩ := hn he
    have ht := take_ok s n.toNat h2 hs
    rw [← h1] at ht
    rw [if_pos he]
    refine acalls_of_awp hT mixed Try.func28 rfl (by kernel_rfl) (by kernel_rfl) (Nat.le_of_ble_eq_true rfl) ?_
    refine callP hu rfl rfl ?_
    refine fork (fun g => ?_) (fun g => absurd he (beq_eq_false_iff_ne.1 g))
    refine callP (check_yes _) rfl rfl ?_
    refine callS (ht) [0] ⟨.inl rfl, True.intro⟩ rfl ?_
    rintro E G ⟨rfl, rfl⟩ _
    refine ⟨_, _, rfl, rfl, ?_⟩
    exact ⟨rfl, [.row [str (rest s n.toNat)]], .agg [u64 0, str ⟨#[]⟩, us l, nilS], ⟨⟨_, rfl, rfl⟩, ⟨.inl rfl, True.intro⟩, Nat.le_refl 1, rfl⟩, rfl, rfl, .inl rfl⟩
  · rw [if_neg he]
    refine acalls_of_awp hT mixed Try.func28 rfl (by kernel_rfl) (by kernel_rfl) (Nat.le_of_ble_eq_true rfl) ?_
    refine callP hu rfl rfl ?_
    refine fork (fun g => absurd (beq_iff_eq.1 g) he) (fun g => ?_)
    refine callBad (check_no _) rfl ?_
    exact ⟨rfl, [.dead], ⟨.inr rfl, True.intro⟩, Nat.le_refl 1, rfl, rfl, rfl⟩
theorem pone_ok (c : Nat) (s : ByteArray) (hc : isL c = true) (hs : s.size ≤ 1000000) : ACalls Try.prog 28 [.ptr 0 0, u8n c] [.row [str s]] (RdR (rdP c s) s) := by
  rcases isL_5 hc with rfl | rfl | rfl | rfl | rfl
  · exact pone_b s hs
  · exact pone_n s hs
  · exact pone_t s hs
  · exact pone_f s hs
  · exact pone_l s hs
end Go.Proofs.Ythebddjpnkimjaa.A
