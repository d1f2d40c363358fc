/- ask: a field's bytes. No condition. -/
import Derived.Test.YtgchhmfobkcnfaaSh
namespace Go.Proofs.Ytgchhmfobkcnfaa.A
open Go
set_option linter.unusedVariables false
set_option linter.unusedSimpArgs false
set_option maxRecDepth 100000
set_option pp.maxSteps 400

def cdB (c : Int × Nat) : List Nat := numN c.1.toNat ++ numN c.2
def txB (s : ByteArray) : List Nat := numN s.size ++ byL s
def fB (q : Rq) : Nat → List Nat
  | 0 => numN q.w.toNat
  | 1 => packN q.l
  | 2 => numN q.g
  | 3 => [bN q.m]
  | 4 => numN q.r.toNat
  | 5 => txB q.key
  | 6 => txB (packV q.vn q.vt q.vb)
  | 7 => txB q.f ++ (txB q.t ++ numN q.lim.toNat)
  | 8 => numN q.n.toNat
  | _ => numN q.c.length ++ q.c.flatMap cdB
theorem pr_n (n : Nat) : printS [110] [Pi.it ⟨n, emp⟩] = some (numN n) := by
  have h2 : shP [110] = some [(110, false)] := by decide
  unfold printS
  rw [h2]
  show cat2 (oneP 110 (Pi.it ⟨n, emp⟩)) (some []) = _
  rw [one_n_N]
  simp [cat2]
theorem pr_b {n : Nat} (h : n ≤ 255) : printS [98] [Pi.it ⟨n, emp⟩] = some [n] := by
  have h2 : shP [98] = some [(98, false)] := by decide
  unfold printS
  rw [h2]
  show cat2 (oneP 98 (Pi.it ⟨n, emp⟩)) (some []) = _
  rw [one_b_N h]
  simp [cat2]
theorem pr_t {s : ByteArray} (h : s.size ≤ 200) : printS [116] [Pi.it ⟨0, s⟩] = some (txB s) := by
  have h2 : shP [116] = some [(116, false)] := by decide
  unfold printS
  rw [h2]
  show cat2 (oneP 116 (Pi.it ⟨0, s⟩)) (some []) = _
  rw [one_t_T h]
  simp [cat2, txB]
theorem pr_l {l : List Nat} (h : rightB l = true) : printS [108] [.mk 0 emp l []] = some (packN l) := by
  have h2 : shP [108] = some [(108, false)] := by decide
  unfold printS
  rw [h2]
  show cat2 (oneP 108 (.mk 0 emp l [])) (some []) = _
  rw [one_l_L h]
  simp [cat2]
theorem pr_nn (a b : Nat) : printS [110, 110] [Pi.it ⟨a, emp⟩, Pi.it ⟨b, emp⟩] = some (numN a ++ numN b) := by
  have h2 : shP [110, 110] = some [(110, false), (110, false)] := by decide
  unfold printS
  rw [h2]
  show cat2 (oneP 110 (Pi.it ⟨a, emp⟩)) (cat2 (oneP 110 (Pi.it ⟨b, emp⟩)) (some [])) = _
  rw [one_n_N, one_n_N]
  simp [cat2]
theorem pr_ttn {s t : ByteArray} (n : Nat) (h : s.size ≤ 200) (h' : t.size ≤ 200) : printS [116, 116, 110] [Pi.it ⟨0, s⟩, Pi.it ⟨0, t⟩, Pi.it ⟨n, emp⟩] = some (txB s ++ (txB t ++ numN n)) := by
  have h2 : shP [116, 116, 110] = some [(116, false), (116, false), (110, false)] := by decide
  unfold printS
  rw [h2]
  show cat2 (oneP 116 (Pi.it ⟨0, s⟩)) (cat2 (oneP 116 (Pi.it ⟨0, t⟩)) (cat2 (oneP 110 (Pi.it ⟨n, emp⟩)) (some []))) = _
  rw [one_t_T h, one_t_T h', one_n_N]
  simp [cat2, txB]
theorem stellN (n : Nat) (h : n < 18446744073709551616) : ACalls Try.prog 20 [str ⟨#[110]⟩, .view 1 [u64n n, str ⟨#[]⟩, nilS, nilS]] [] (Ret (str (BA (numN n)))) :=
  stellR_ok ⟨#[110]⟩ [⟨n, emp⟩] _ (by decide) (by simp) (fun x hx => by rw [List.mem_singleton.1 hx]; exact wi_pi h (by decide)) (pr_n n)
theorem stellB (n : Nat) (h : n ≤ 255) : ACalls Try.prog 20 [str ⟨#[98]⟩, .view 1 [u64n n, str ⟨#[]⟩, nilS, nilS]] [] (Ret (str (BA [n]))) :=
  stellR_ok ⟨#[98]⟩ [⟨n, emp⟩] _ (by decide) (by simp) (fun x hx => by rw [List.mem_singleton.1 hx]; exact wi_pi (by omega) (by decide)) (pr_b h)
theorem stellT (s : ByteArray) (h : s.size ≤ 200) : ACalls Try.prog 20 [str ⟨#[116]⟩, .view 1 [u64n 0, str s, nilS, nilS]] [] (Ret (str (BA (txB s)))) :=
  stellR_ok ⟨#[116]⟩ [⟨0, s⟩] _ (by decide) (by simp) (fun x hx => by rw [List.mem_singleton.1 hx]; exact wi_pi (by decide) (by omega)) (pr_t h)
theorem stellL (l : List Nat) (h : rightB l = true) (hx : ∀ y ∈ l, y < 18446744073709551616) : ACalls Try.prog 20 [str ⟨#[108]⟩, .view 1 [u64n 0, str ⟨#[]⟩, us l, nilS]] [] (Ret (str (BA (packN l)))) := by
  have ht := stell_ok ⟨#[108]⟩ [.mk 0 emp l []] _ (by decide) (by simp) (fun x hx2 => by rw [List.mem_singleton.1 hx2]; exact .mk _ _ _ _ (by decide) (by have := rightB_len h; omega) hx (by decide) (by decide) (by simp)) (pr_l h)
  exact arg2Le (ds := flat itC [.mk 0 emp l []]) ⟨fun _ _ h => h, fun _ _ h => h, fun _ _ h => h, fun _ _ h => VR_nilView h, True.intro⟩ ht
theorem stellNN (a b : Nat) (ha : a < 18446744073709551616) (hb : b < 18446744073709551616) : ACalls Try.prog 20 [str ⟨#[110, 110]⟩, .view 2 [u64n a, str ⟨#[]⟩, nilS, nilS, u64n b, str ⟨#[]⟩, nilS, nilS]] [] (Ret (str (BA (numN a ++ numN b)))) :=
  stellR_ok ⟨#[110, 110]⟩ [⟨a, emp⟩, ⟨b, emp⟩] _ (by decide) (by simp) (fun x hx => by
    simp only [List.mem_cons, List.not_mem_nil, or_false] at hx
    rcases hx with rfl | rfl
    · exact wi_pi ha (by decide)
    · exact wi_pi hb (by decide)) (pr_nn a b)
theorem stellR (s t : ByteArray) (n : Nat) (h : s.size ≤ 200) (h' : t.size ≤ 200) (hn : n < 18446744073709551616) : ACalls Try.prog 20 [str ⟨#[116, 116, 110]⟩, .view 3 [u64n 0, str s, nilS, nilS, u64n 0, str t, nilS, nilS, u64n n, str ⟨#[]⟩, nilS, nilS]] [] (Ret (str (BA (txB s ++ (txB t ++ numN n))))) :=
  stellR_ok ⟨#[116, 116, 110]⟩ [⟨0, s⟩, ⟨0, t⟩, ⟨n, emp⟩] _ (by decide) (by simp) (fun x hx => by
    simp only [List.mem_cons, List.not_mem_nil, or_false] at hx
    rcases hx with rfl | rfl | rfl
    · exact wi_pi (by decide) (by omega)
    · exact wi_pi (by decide) (by omega)
    · exact wi_pi hn (by decide)) (pr_ttn n h h')
theorem spackV_size {n : Bool} {t : ByteArray} {b : Nat} (h : rightV n t b = true) : (packV n t b).size ≤ 65 := by
  cases n with
  | true =>
    show (ByteArray.mk #[1] ++ (⟨(keyL (placeB b)).toArray⟩ : ByteArray)).size ≤ 65
    rw [size_append]
    show 1 + 8 ≤ 65
    decide
  | false =>
    have := right_text h
    show (ByteArray.mk #[0] ++ t).size ≤ 65
    rw [size_append]
    show 1 + t.size ≤ 65
    omega
theorem put_ok8 (q : Rq) (h : q.ok) (f : Nat) (hf : f ≤ 8) (hn : nmB q f = true) : ACalls Try.prog 23 [.agg q.C, i64 (f : Nat)] [] (Ret (str (BA (fB q f)))) := by
  obtain ⟨hl, hx, hg, hvb, hc, hb⟩ := h
  obtain ⟨k, w, l, g, m, r, key, vn, vt, vb, fr, t, lim, n, c⟩ := q
  dsimp only at hl hx hg hvb hc hb
  match f, hf, hn with
  | 0, _, hn =>
    have hn' : 0 ≤ w ∧ w ≤ 7 := of_decide_eq_true hn
    obtain ⟨n9, rfl⟩ : ∃ n9 : Nat, w = (n9 : Int) := ⟨w.toNat, by omega⟩
    have n1 := sNum_ok n9 (by omega)
    have ht := stellN n9 (by omega)
    show ACalls Try.prog 23 _ [] (Ret (str (BA (numN ((n9 : Nat) : Int).toNat))))
    rw [Int.toNat_natCast]
    refine acalls_of_awp hT mixed Try.func23 rfl (by kernel_rfl) (by kernel_rfl) (Nat.le_of_ble_eq_true rfl) ?_
    refine callP n1 rfl rfl ?_
    refine callCut (bs := [str ⟨#[110]⟩, .view 1 [u64n n9, str ⟨#[]⟩, nilS, nilS]]) 1 rfl ?_
    refine callS ht [] True.intro rfl ?_
    rintro E G ⟨rfl, rfl⟩ _
    refine ⟨_, _, rfl, rfl, ?_⟩
    repeat refine same ?_
    refine end0 rfl rfl rfl rfl
  | 1, _, hn =>
    have ht := stellL l hn hx
    refine acalls_of_awp hT mixed Try.func23 rfl (by kernel_rfl) (by kernel_rfl) (Nat.le_of_ble_eq_true rfl) ?_
    refine callCut (bs := [str ⟨#[108]⟩, .view 1 [u64n 0, str ⟨#[]⟩, us l, nilS]]) 1 rfl ?_
    refine callS ht [] True.intro rfl ?_
    rintro E G ⟨rfl, rfl⟩ _
    refine ⟨_, _, rfl, rfl, ?_⟩
    repeat refine same ?_
    refine end0 rfl rfl rfl rfl
  | 2, _, hn =>
    have ht := stellN g hg
    refine acalls_of_awp hT mixed Try.func23 rfl (by kernel_rfl) (by kernel_rfl) (Nat.le_of_ble_eq_true rfl) ?_
    refine callCut (bs := [str ⟨#[110]⟩, .view 1 [u64n g, str ⟨#[]⟩, nilS, nilS]]) 1 rfl ?_
    refine callS ht [] True.intro rfl ?_
    rintro E G ⟨rfl, rfl⟩ _
    refine ⟨_, _, rfl, rfl, ?_⟩
    repeat refine same ?_
    refine end0 rfl rfl rfl rfl
  | 3, _, hn =>
    have n1 := sTruth_ok m
    have ht := stellB (bN m) (by have := bN_le m; omega)
    cases m <;>
    · refine acalls_of_awp hT mixed Try.func23 rfl (by kernel_rfl) (by kernel_rfl) (Nat.le_of_ble_eq_true rfl) ?_
      refine callP n1 rfl rfl ?_
      refine callCut (bs := [str ⟨#[98]⟩, .view 1 [u64n _, str ⟨#[]⟩, nilS, nilS]]) 1 rfl ?_
      refine callS ht [] True.intro rfl ?_
      rintro E G ⟨rfl, rfl⟩ _
      refine ⟨_, _, rfl, rfl, ?_⟩
      repeat refine same ?_
      refine end0 rfl rfl rfl rfl
  | 4, _, hn =>
    have hn' : 0 ≤ r ∧ r ≤ 7 := of_decide_eq_true hn
    obtain ⟨n9, rfl⟩ : ∃ n9 : Nat, r = (n9 : Int) := ⟨r.toNat, by omega⟩
    have n1 := sNum_ok n9 (by omega)
    have ht := stellN n9 (by omega)
    show ACalls Try.prog 23 _ [] (Ret (str (BA (numN ((n9 : Nat) : Int).toNat))))
    rw [Int.toNat_natCast]
    refine acalls_of_awp hT mixed Try.func23 rfl (by kernel_rfl) (by kernel_rfl) (Nat.le_of_ble_eq_true rfl) ?_
    refine callP n1 rfl rfl ?_
    refine callCut (bs := [str ⟨#[110]⟩, .view 1 [u64n n9, str ⟨#[]⟩, nilS, nilS]]) 1 rfl ?_
    refine callS ht [] True.intro rfl ?_
    rintro E G ⟨rfl, rfl⟩ _
    refine ⟨_, _, rfl, rfl, ?_⟩
    repeat refine same ?_
    refine end0 rfl rfl rfl rfl
  | 5, _, hn =>
    have hk : 1 ≤ key.size ∧ key.size ≤ 32 := of_decide_eq_true hn
    have n1 := sText_ok key
    have ht := stellT key (by omega)
    refine acalls_of_awp hT mixed Try.func23 rfl (by kernel_rfl) (by kernel_rfl) (Nat.le_of_ble_eq_true rfl) ?_
    refine callP n1 rfl rfl ?_
    refine callCut (bs := [str ⟨#[116]⟩, .view 1 [u64n 0, str key, nilS, nilS]]) 1 rfl ?_
    refine callS ht [] True.intro rfl ?_
    rintro E G ⟨rfl, rfl⟩ _
    refine ⟨_, _, rfl, rfl, ?_⟩
    repeat refine same ?_
    refine end0 rfl rfl rfl rfl
  | 6, _, hn =>
    have n1 := sWorth_ok vn vt vb hvb hn
    have ht := stellT (packV vn vt vb) (by have : (packV vn vt vb).size ≤ 65 := spackV_size hn; omega)
    show ACalls Try.prog 23 _ [] (Ret (str (BA (txB (packV vn vt vb)))))
    generalize packV vn vt vb = P at n1 ht ⊢
    cases vn <;>
    · refine acalls_of_awp hT mixed Try.func23 rfl (by kernel_rfl) (by kernel_rfl) (Nat.le_of_ble_eq_true rfl) ?_
      refine callP n1 rfl rfl ?_
      refine callCut (bs := [str ⟨#[116]⟩, .view 1 [u64n 0, str P, nilS, nilS]]) 1 rfl ?_
      refine callS ht [] True.intro rfl ?_
      rintro E G ⟨rfl, rfl⟩ _
      refine ⟨_, _, rfl, rfl, ?_⟩
      repeat refine same ?_
      refine end0 rfl rfl rfl rfl
  | 7, _, hn =>
    have hn' : rngB fr t lim = true ∧ (fr.size ≤ 32 ∧ t.size ≤ 32) := by
      have h : (rngB fr t lim && (decide (fr.size ≤ 32) && decide (t.size ≤ 32))) = true := hn
      simp only [Bool.and_eq_true, decide_eq_true_eq] at h
      exact h
    have hr := of_decide_eq_true hn'.1
    obtain ⟨n', rfl⟩ : ∃ n : Nat, lim = (n : Int) := ⟨lim.toNat, by omega⟩
    have n1 := sText_ok fr
    have n2 := sText_ok t
    have n3 := sNum_ok n' (by omega)
    have ht := stellR fr t n' (by omega) (by omega) (by omega)
    show ACalls Try.prog 23 _ [] (Ret (str (BA (txB fr ++ (txB t ++ numN ((n' : Nat) : Int).toNat)))))
    rw [Int.toNat_natCast]
    refine acalls_of_awp hT mixed Try.func23 rfl (by kernel_rfl) (by kernel_rfl) (Nat.le_of_ble_eq_true rfl) ?_
    refine ⟨[0, 0, 0, 1, 0, 0, 0, 2, 0, 0, 0, 3, 3, 4, 4], [[], [0], [0, 1], [0, 1, 2], [], [4], [4, 5], [0, 1, 2, 3, 4, 5, 6], [], [8], [8, 9], [0, 1, 2, 3, 4, 5, 6, 7, 8, 9, 10], [0, 1, 2, 3, 4, 5, 6, 7, 8, 9, 10, 11], [0, 1, 2, 3, 4, 5, 6, 7, 8, 9, 10, 11, 12], [0, 1, 2, 3, 4, 5, 6, 7, 8, 9, 10, 11, 12, 13]], [0, 0, 0, 0, 0, 0, 0, 0, 0, 0, 0, 0, 0, 1, 1], [3, 7, 11, 13], [[2], [60], [61], [62], [2], [64], [65], [66], [2], [68], [69], [70], [63, 67, 71], [72], [73]], Ob.intro (by kernel_rfl) ?_⟩
    repeat refine same ?_
    refine callP n1 rfl rfl ?_
    repeat refine same ?_
    refine callP n2 rfl rfl ?_
    repeat refine same ?_
    refine callP n3 rfl rfl ?_
    repeat refine same ?_
    refine callCut (bs := [str ⟨#[116, 116, 110]⟩, .view 3 [u64n 0, str fr, nilS, nilS, u64n 0, str t, nilS, nilS, u64n n', str ⟨#[]⟩, nilS, nilS]]) 1 rfl ?_
    refine callS ht [] True.intro rfl ?_
    rintro E G ⟨rfl, rfl⟩ _
    refine ⟨_, _, rfl, rfl, ?_⟩
    repeat refine same ?_
    refine end0 rfl rfl rfl rfl
  | 8, _, hn =>
    have hn' : 0 ≤ n ∧ n ≤ 4 := by have : 1 ≤ n ∧ n ≤ 4 := of_decide_eq_true hn; omega
    obtain ⟨n', rfl⟩ : ∃ n' : Nat, n = (n' : Int) := ⟨n.toNat, by omega⟩
    have n1 := sNum_ok n' (by omega)
    have ht := stellN n' (by omega)
    show ACalls Try.prog 23 _ [] (Ret (str (BA (numN ((n' : Nat) : Int).toNat))))
    rw [Int.toNat_natCast]
    refine acalls_of_awp hT mixed Try.func23 rfl (by kernel_rfl) (by kernel_rfl) (Nat.le_of_ble_eq_true rfl) ?_
    refine callP n1 rfl rfl ?_
    refine callCut (bs := [str ⟨#[110]⟩, .view 1 [u64n n', str ⟨#[]⟩, nilS, nilS]]) 1 rfl ?_
    refine callS ht [] True.intro rfl ?_
    rintro E G ⟨rfl, rfl⟩ _
    refine ⟨_, _, rfl, rfl, ?_⟩
    repeat refine same ?_
    refine end0 rfl rfl rfl rfl
  | n + 9, h, _ => exact absurd h (by omega)
end Go.Proofs.Ytgchhmfobkcnfaa.A

namespace Go.Proofs.Ytgchhmfobkcnfaa.A
open Go
set_option linter.unusedVariables false
set_option linter.unusedSimpArgs false
set_option maxRecDepth 100000
set_option pp.maxSteps 400

theorem rightP_cd {c : List (Int × Nat)} (h : rightP c = true) : (1 ≤ c.length ∧ c.length ≤ 32) ∧ ∀ x ∈ c, 1 ≤ x.1 ∧ x.1 ≤ 16 := by
  unfold rightP at h
  simp only [Bool.and_eq_true, decide_eq_true_eq, List.all_eq_true] at h
  refine ⟨h.2, fun x hx => ?_⟩
  have := h.1 x hx
  unfold rightC at this
  split at this
  · omega
  · simp only [Bool.and_eq_true, decide_eq_true_eq] at this
    exact this.1
def cdsB (c : List (Int × Nat)) (j : Nat) : List Nat := numN c.length ++ (c.take j).flatMap cdB
theorem cdB_len {x : Int × Nat} (h : x.1 ≤ 16) (hb : x.2 < 18446744073709551616) : (cdB x).length ≤ 20 := by
  have l1 := numN_len10 (show x.1.toNat < 18446744073709551616 by omega)
  have l2 := numN_len10 hb
  unfold cdB
  rw [List.length_append]
  omega
theorem flat_len20 : ∀ {L : List (Int × Nat)}, (∀ x ∈ L, (cdB x).length ≤ 20) → (L.flatMap cdB).length ≤ 20 * L.length
  | [], _ => Nat.le_refl _
  | w :: L, h => by
    have h1 := h w (List.mem_cons_self ..)
    have h2 := flat_len20 fun x hx => h x (List.mem_cons_of_mem _ hx)
    rw [List.flatMap_cons, List.length_append, List.length_cons]
    omega
theorem cdsB_snoc {c : List (Int × Nat)} {j : Nat} {x : Int × Nat} (h : c[j]? = some x) : BA (cdsB c j) ++ BA (cdB x) = BA (cdsB c (j + 1)) := by
  rw [BA_append]
  congr 1
  unfold cdsB
  rw [take_snocA h, List.flatMap_append, List.flatMap_cons, List.flatMap_nil, List.append_nil, List.append_assoc]
theorem put_ok9 (q : Rq) (h : q.ok) (hn : rightP q.c = true) : ACalls Try.prog 23 [.agg q.C, i64 9] [] (Ret (str (BA (fB q 9)))) := by
  obtain ⟨hl, hx, hg, hvb, hc, hb⟩ := h
  obtain ⟨k, w, l, g, m, r, key, vn, vt, vb, fr, t, lim, n, c⟩ := q
  dsimp only at hl hx hg hvb hc hb hn
  obtain ⟨hcl, hop⟩ := rightP_cd hn
  have n1 := sNum_ok c.length (by omega)
  have ht := stellN c.length (by omega)
  have e0 : BA (numN c.length) = BA (cdsB c 0) := by unfold cdsB; simp
  rw [e0] at ht
  have hlj : ∀ j, (cdsB c j).length ≤ 10 + 20 * c.length := fun j => by
    have l1 := numN_len10 (show c.length < 18446744073709551616 by omega)
    have := flat_len20 (L := c.take j) fun x hx => cdB_len (hop x (List.mem_of_mem_take hx)).2 (hb x (List.mem_of_mem_take hx))
    rw [List.length_take] at this
    unfold cdsB
    rw [List.length_append]
    omega
  show ACalls Try.prog 23 _ [] (Ret (str (BA (numN c.length ++ c.flatMap cdB))))
  rw [show numN c.length ++ c.flatMap cdB = cdsB c c.length by unfold cdsB; rw [List.take_length]]
  refine acalls_of_awp hT mixed Try.func23 rfl (by kernel_rfl) (by kernel_rfl) (Nat.le_of_ble_eq_true rfl) ?_
  refine callP n1 rfl rfl ?_
  refine callCut (bs := [str ⟨#[110]⟩, .view 1 [u64n c.length, str ⟨#[]⟩, nilS, nilS]]) 1 rfl ?_
  refine callS ht [] True.intro rfl ?_
  rintro E G ⟨rfl, rfl⟩ _
  refine ⟨_, _, rfl, rfl, ?_⟩
  refine loopI (α := { j : Nat // j ≤ c.length }) (fun x => [(5, str (BA (cdsB c x.val))), (88, cdV c), (89, i64 c.length), (90, i64 (x.val : Nat))]) (fun _ => []) (fun x => c.length - x.val) ⟨0, Nat.zero_le _⟩ [] ⟨⟨rfl, rfl, rfl, rfl, True.intro⟩, True.intro, rfl, rfl, rfl⟩ ?_
  rintro ⟨j, hj⟩ K hK
  have hinc : wrp .i64 ((j : Int) + 1) = ((j + 1 : Nat) : Int) := by rw [wrpE, wi64]; omega
  refine forkD (fun h => ?_) (fun h => ?_)
  · have h' : j < c.length := by have : (j : Int) < (c.length : Int) := h; omega
    obtain ⟨x, hxj⟩ : ∃ x, c[j]? = some x := ⟨_, List.getElem?_eq_getElem h'⟩
    have hik : (0 : Int) ≤ (j : Nat) ∧ ((j : Nat) : Int) < (c.length : Nat) := by omega
    have hmem := List.mem_of_getElem? hxj
    have ho := hop x hmem
    have hbx := hb x hmem
    have ct := flat_takeN cd_len hxj
    have hsn := cdsB_snoc hxj
    have hl1 := hlj j
    have hl2 := cdB_len ho.2 hbx
    obtain ⟨op, b⟩ := x
    dsimp only at ho hbx
    obtain ⟨p, rfl⟩ : ∃ p : Nat, op = (p : Int) := ⟨op.toNat, by omega⟩
    have n2 := sNum_ok p (by omega)
    have htt := stellNN p b (by omega) hbx
    rw [show numN p ++ numN b = cdB ((p : Int), b) by unfold cdB; rw [Int.toNat_natCast]] at htt
    have hsz : (BA (cdsB c j)).size + (BA (cdB ((p : Int), b))).size ≤ 9223372036854775807 := by rw [BA_size, BA_size]; omega
    generalize BA (cdsB c j) = X0 at hsn hsz ⊢
    generalize BA (cdB ((p : Int), b)) = X2 at hsn hsz htt
    refine Ob.intro hik ?_
    refine optK_intro ct ?_
    refine ⟨[0, 0, 0, 1, 0, 0, 0, 1, 2, 2, 2], [[], [], [1], [1, 2], [], [4], [4, 5], [1, 2, 3, 4, 5, 6], [1, 2, 3, 4, 5, 6, 7], [0, 1, 2, 3, 4, 5, 6, 7, 8], [0, 1, 2, 3, 4, 5, 6, 7, 8, 9]], [0, 0, 0, 0, 0, 0, 0, 0, 1, 1, 1], [3, 8], [[5], [7], [95], [96], [7], [98], [99], [97, 100], [101], [94, 102], [103]], Ob.intro (by kernel_rfl) ?_⟩
    repeat refine same ?_
    refine callP n2 rfl rfl ?_
    repeat refine same ?_
    refine callCut (bs := [str ⟨#[110, 110]⟩, .view 2 [u64n p, str ⟨#[]⟩, nilS, nilS, u64n b, str ⟨#[]⟩, nilS, nilS]]) 1 rfl ?_
    refine callS htt [] True.intro rfl ?_
    rintro E G ⟨rfl, rfl⟩ _
    refine ⟨_, _, rfl, rfl, ?_⟩
    repeat first | refine same ?_ | refine Ob.intro hsz ?_
    refine hK ⟨j + 1, h'⟩ [] _ (show c.length - j = c.length - (j + 1) + 1 by omega) ⟨⟨congrArg str hsn, rfl, rfl, congrArg i64 hinc, True.intro⟩, True.intro, rfl, rfl, rfl⟩
  · have h' : j = c.length := by have : ¬ (j : Int) < (c.length : Int) := h; omega
    have hX : BA (cdsB c j) = BA (cdsB c c.length) := by rw [h']
    refine end0 rfl rfl rfl (congrArg str hX)
theorem put_ok (q : Rq) (h : q.ok) (f : Nat) (hf : f ≤ 9) (hn : nmB q f = true) : ACalls Try.prog 23 [.agg q.C, i64 (f : Nat)] [] (Ret (str (BA (fB q f)))) := by
  by_cases h9 : f = 9
  · subst h9
    exact put_ok9 q h hn
  · exact put_ok8 q h f (by omega) hn
/-- A request's bytes. -/
def pkB (q : Rq) : List Nat := q.k.toNat :: (fldL q.k).flatMap (fB q)
def pkJ (q : Rq) (L : List Nat) (j : Nat) : List Nat := q.k.toNat :: (L.take j).flatMap (fB q)
theorem fB_len {q : Rq} (h : q.ok) {f : Nat} (hf : f ≤ 9) (hn : nmB q f = true) : (fB q f).length ≤ 700 := by
  obtain ⟨hl, hx, hg, hvb, hc, hb⟩ := h
  have htx : ∀ s : ByteArray, s.size ≤ 100 → (txB s).length ≤ 110 := fun s hs => by
    have := numN_len10 (show s.size < 18446744073709551616 by omega)
    unfold txB
    rw [List.length_append, byL_len]
    omega
  match f, hf with
  | 0, _ => have : 0 ≤ q.w ∧ q.w ≤ 7 := of_decide_eq_true hn; have := numN_len10 (show q.w.toNat < 18446744073709551616 by omega); show (numN _).length ≤ _; omega
  | 1, _ => show (packN q.l).length ≤ _; rw [packN_len]; have := rightB_len (l := q.l) hn; omega
  | 2, _ => have := numN_len10 hg; show (numN _).length ≤ _; omega
  | 3, _ => show 1 ≤ _; decide
  | 4, _ => have : 0 ≤ q.r ∧ q.r ≤ 7 := of_decide_eq_true hn; have := numN_len10 (show q.r.toNat < 18446744073709551616 by omega); show (numN _).length ≤ _; omega
  | 5, _ => have hk : 1 ≤ q.key.size ∧ q.key.size ≤ 32 := of_decide_eq_true hn; have := htx q.key (by omega); show (txB _).length ≤ _; omega
  | 6, _ => have hk : (packV q.vn q.vt q.vb).size ≤ 65 := spackV_size hn; have := htx _ (show (packV q.vn q.vt q.vb).size ≤ 100 by omega); show (txB _).length ≤ _; omega
  | 7, _ =>
    have h : (rngB q.f q.t q.lim && (decide (q.f.size ≤ 32) && decide (q.t.size ≤ 32))) = true := hn
    simp only [Bool.and_eq_true, decide_eq_true_eq] at h
    have hr := of_decide_eq_true h.1
    have h1 := htx q.f (by omega)
    have h2 := htx q.t (by omega)
    have h3 := numN_len10 (show q.lim.toNat < 18446744073709551616 by omega)
    show (txB q.f ++ (txB q.t ++ numN q.lim.toNat)).length ≤ _
    rw [List.length_append, List.length_append]
    omega
  | 8, _ => have : 1 ≤ q.n ∧ q.n ≤ 4 := of_decide_eq_true hn; have := numN_len10 (show q.n.toNat < 18446744073709551616 by omega); show (numN _).length ≤ _; omega
  | 9, _ =>
    obtain ⟨hcl, hop⟩ := rightP_cd (c := q.c) hn
    have l1 := numN_len10 (show q.c.length < 18446744073709551616 by omega)
    have := flat_len20 (L := q.c) fun x hx => cdB_len (hop x hx).2 (hb x hx)
    show (numN q.c.length ++ q.c.flatMap cdB).length ≤ _
    rw [List.length_append]
    omega
  | f + 10, h => exact absurd h (by omega)
theorem flat_len700 {q : Rq} : ∀ {L : List Nat}, (∀ x ∈ L, (fB q x).length ≤ 700) → (L.flatMap (fB q)).length ≤ 700 * L.length
  | [], _ => Nat.le_refl _
  | w :: L, h => by
    have h1 := h w (List.mem_cons_self ..)
    have h2 := flat_len700 (q := q) (L := L) fun x hx => h x (List.mem_cons_of_mem _ hx)
    rw [List.flatMap_cons, List.length_append, List.length_cons]
    omega
theorem pkJ_snoc {q : Rq} {L : List Nat} {j : Nat} {x : Nat} (h : L[j]? = some x) : BA (pkJ q L j) ++ BA (fB q x) = BA (pkJ q L (j + 1)) := by
  rw [BA_append]
  congr 1
  unfold pkJ
  rw [take_snocA h, List.flatMap_append, List.flatMap_cons, List.flatMap_nil, List.append_nil, List.cons_append]
theorem pack_no (q : Rq) (h : q.ok) (hr : rqB q = false) : ACalls Try.prog 8 [.agg q.C] [] (Ret (.tup [str emp, i64 1])) := by
  have h1 := rqright_ok q h
  rw [hr] at h1
  obtain ⟨k, w, l, g, m, r, key, vn, vt, vb, fr, t, lim, n, c⟩ := q
  clear h hr
  cases m <;> cases vn <;>
  · refine acalls_of_awpU [] hT mixed Try.func8 rfl (by kernel_rfl) (by kernel_rfl) (Nat.le_of_ble_eq_true rfl) ?_
    refine callP h1 rfl rfl ?_
    refine callBad smust_no rfl ?_
    refine acallsD_of_rec hT mixed Try.func18 rfl (by kernel_rfl) (by kernel_rfl) rfl rfl rfl (splain) (Nat.le_of_ble_eq_true rfl) ?_
    exact ⟨rfl, [.dead, .row [i64 1]], _, ⟨⟨_, rfl, rfl⟩, ⟨.inr rfl, .inl rfl, True.intro⟩, Nat.le_of_ble_eq_true rfl, rfl⟩, True.intro, [], .tup [str emp, i64 1], ⟨⟨_, rfl, rfl⟩, True.intro, Nat.zero_le _, rfl⟩, rfl, rfl⟩
theorem pack_yes (q : Rq) (h : q.ok) (hr : rqB q = true) : ACalls Try.prog 8 [.agg q.C] [] (Ret (.tup [str (BA (pkB q)), i64 0])) := by
  have h1 := rqright_ok q h
  rw [hr] at h1
  obtain ⟨hk, -, hnm⟩ := (rq_iff q).1 hr
  have hfl := fields_ok q.k
  have hput : ∀ f ∈ fldL q.k, ACalls Try.prog 23 [.agg q.C, i64 (f : Nat)] [] (Ret (str (BA (fB q f)))) := fun f hf => put_ok q h f (by have := fldL_lt hf; omega) (hnm f hf)
  have hfb : ∀ f ∈ fldL q.k, (fB q f).length ≤ 700 := fun f hf => fB_len h (by have := fldL_lt hf; omega) (hnm f hf)
  have hll := fldL_len q.k
  have hpk : pkB q = pkJ q (fldL q.k) (fldL q.k).length := by unfold pkB pkJ; rw [List.take_length]
  rw [hpk]
  have hsn := fun {j x} => pkJ_snoc (q := q) (L := fldL q.k) (j := j) (x := x)
  have hz : ∀ j, (pkJ q (fldL q.k) j).length ≤ 2200 := fun j => by
    have := flat_len700 (q := q) (L := (fldL q.k).take j) fun x hx => hfb x (List.mem_of_mem_take hx)
    rw [List.length_take] at this
    unfold pkJ
    rw [List.length_cons]
    have : 700 * min j (fldL q.k).length ≤ 700 * 3 := Nat.mul_le_mul_left _ (by omega)
    omega
  have e0 : pkJ q (fldL q.k) 0 = [q.k.toNat] := rfl
  generalize hL : fldL q.k = L at *
  generalize pkJ q L = pj at *
  generalize fB q = fb at *
  obtain ⟨k, w, l, g, m, r, key, vn, vt, vb, fr, t, lim, n, c⟩ := q
  dsimp only at hk hfl e0
  clear h hr hnm hpk hL
  obtain ⟨k, rfl⟩ : ∃ k' : Nat, k = (k' : Int) := ⟨k.toNat, by omega⟩
  have n1 := sNum_ok k (by omega)
  have ht := stellB k (by omega)
  rw [Int.toNat_natCast] at e0
  rw [← e0] at ht
  cases m <;> cases vn <;>
  · refine acalls_of_awpU [] hT mixed Try.func8 rfl (by kernel_rfl) (by kernel_rfl) (Nat.le_of_ble_eq_true rfl) ?_
    refine callP h1 rfl rfl ?_
    refine callP smust_yes rfl rfl ?_
    refine callP n1 rfl rfl ?_
    refine callCut (bs := [str ⟨#[98]⟩, .view 1 [u64n k, str ⟨#[]⟩, nilS, nilS]]) 2 rfl ?_
    refine callS ht [] True.intro rfl ?_
    rintro E G ⟨rfl, rfl⟩ _
    refine ⟨_, _, rfl, rfl, ?_⟩
    refine callP hfl rfl rfl ?_
    refine loopG (α := { j : Nat // j ≤ L.length }) (fun x => [(1, .ptr 0 0), (3, .ptr 1 0), (4, str (BA (pj x.val))), (17, fdV L), (18, i64 L.length), (19, i64 (x.val : Nat))]) (fun _ => [.row (Rq.C ⟨k, w, l, g, _, r, key, _, vt, vb, fr, t, lim, n, c⟩), .row [i64 0]]) [⟨18, [], [.ptr 1 0, i64 1]⟩] (fun x => L.length - x.val) ⟨0, Nat.zero_le _⟩ [] [0, 1] ⟨⟨rfl, rfl, rfl, rfl, rfl, rfl, True.intro⟩, ⟨.inl rfl, .inl rfl, True.intro⟩, rfl, rfl, rfl⟩ ?_
    rintro ⟨j, hj⟩ K hK
    have hinc : wrp .i64 ((j : Int) + 1) = ((j + 1 : Nat) : Int) := by rw [wrpE, wi64]; omega
    refine forkD (fun h => ?_) (fun h => ?_)
    · have h' : j < L.length := by have : (j : Int) < (L.length : Int) := h; omega
      obtain ⟨y, hy⟩ : ∃ y, L[j]? = some y := ⟨_, List.getElem?_eq_getElem h'⟩
      have hik : (0 : Int) ≤ (j : Nat) ∧ ((j : Nat) : Int) < (L.length : Nat) := by omega
      have hc : nth (List.drop ((j : Int).toNat * 1) (L.map fun n => i64 (n : Nat))) 0 = some (i64 (y : Nat)) := by
        rw [nth_eq, Int.toNat_natCast, Nat.mul_one, List.getElem?_drop, Nat.add_zero, List.getElem?_map, hy]
        rfl
      have hp := hput y (List.mem_of_getElem? hy)
      have hs := hsn hy
      have hz1 := hz j
      have hz2 := hfb y (List.mem_of_getElem? hy)
      have hsz : (BA (pj j)).size + (BA (fb y)).size ≤ 9223372036854775807 := by rw [BA_size, BA_size]; omega
      generalize BA (fb y) = X2 at hs hsz hp
      generalize BA (pj j) = X0 at hs hsz ⊢
      refine Ob.intro hik ?_
      refine optK_intro hc ?_
      refine callP hp rfl rfl ?_
      refine Ob.intro hsz ?_
      refine hK ⟨j + 1, h'⟩ [] [0, 1] _ (show L.length - j = L.length - (j + 1) + 1 by omega) ⟨⟨rfl, rfl, congrArg str hs, rfl, rfl, congrArg i64 hinc, True.intro⟩, ⟨.inl rfl, .inl rfl, True.intro⟩, rfl, rfl, rfl⟩
    · have h' : j = L.length := by have : ¬ (j : Int) < (L.length : Int) := h; omega
      have hX : BA (pj j) = BA (pj L.length) := by rw [h']
      refine acallsD_of_rec hT mixed Try.func18 rfl (by kernel_rfl) (by kernel_rfl) rfl rfl rfl (fun u b h => by cases h) (Nat.le_of_ble_eq_true rfl) ?_
      exact ⟨rfl, [.dead, .row [i64 0]], _, ⟨⟨_, rfl, rfl⟩, ⟨.inr rfl, .inl rfl, True.intro⟩, Nat.le_of_ble_eq_true rfl, rfl⟩, True.intro, [], .tup [str (BA (pj j)), i64 0], ⟨⟨_, rfl, rfl⟩, True.intro, Nat.zero_le _, rfl⟩, by rw [hX], rfl⟩
end Go.Proofs.Ytgchhmfobkcnfaa.A
