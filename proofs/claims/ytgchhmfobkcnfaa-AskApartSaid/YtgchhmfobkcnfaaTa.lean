/- ask: Tell. No condition. -/
import Derived.Test.YtgchhmfobkcnfaaSy
namespace Go.Proofs.Ytgchhmfobkcnfaa.A
open Go
set_option linter.unusedVariables false
set_option linter.unusedSimpArgs false
set_option maxRecDepth 100000
set_option pp.maxSteps 400

theorem pr_nb (n : Nat) {m : Nat} (h : m ≤ 255) : printS [110, 98] [Pi.it ⟨n, emp⟩, Pi.it ⟨m, emp⟩] = some (numN n ++ [m]) := by
  have h2 : shP [110, 98] = some [(110, false), (98, false)] := by decide
  unfold printS
  rw [h2]
  show cat2 (oneP 110 (Pi.it ⟨n, emp⟩)) (cat2 (oneP 98 (Pi.it ⟨m, emp⟩)) (some [])) = _
  rw [one_n_N, one_b_N h]
  simp [cat2]
theorem pr_ntt (n : Nat) {s t : ByteArray} (h : s.size ≤ 200) (h' : t.size ≤ 200) : printS [110, 116, 116] [Pi.it ⟨n, emp⟩, Pi.it ⟨0, s⟩, Pi.it ⟨0, t⟩] = some (numN n ++ (txB s ++ txB t)) := by
  have h2 : shP [110, 116, 116] = some [(110, false), (116, false), (116, false)] := by decide
  unfold printS
  rw [h2]
  show cat2 (oneP 110 (Pi.it ⟨n, emp⟩)) (cat2 (oneP 116 (Pi.it ⟨0, s⟩)) (cat2 (oneP 116 (Pi.it ⟨0, t⟩)) (some []))) = _
  rw [one_n_N, one_t_T h, one_t_T h']
  simp [cat2, txB]
theorem pr_n5 (a b c d e : Nat) : printS [110, 110, 110, 110, 110] [Pi.it ⟨a, emp⟩, Pi.it ⟨b, emp⟩, Pi.it ⟨c, emp⟩, Pi.it ⟨d, emp⟩, Pi.it ⟨e, emp⟩] = some (numN a ++ (numN b ++ (numN c ++ (numN d ++ numN e)))) := by
  have h2 : shP [110, 110, 110, 110, 110] = some [(110, false), (110, false), (110, false), (110, false), (110, false)] := by decide
  unfold printS
  rw [h2]
  show cat2 (oneP 110 (Pi.it ⟨a, emp⟩)) (cat2 (oneP 110 (Pi.it ⟨b, emp⟩)) (cat2 (oneP 110 (Pi.it ⟨c, emp⟩)) (cat2 (oneP 110 (Pi.it ⟨d, emp⟩)) (cat2 (oneP 110 (Pi.it ⟨e, emp⟩)) (some []))))) = _
  simp only [one_n_N, cat2, List.append_nil]
theorem stellNB (n m : Nat) (h : n < 18446744073709551616) (hm : m ≤ 255) : ACalls Try.prog 20 [str ⟨#[110, 98]⟩, .view 2 [u64n n, str ⟨#[]⟩, nilS, nilS, u64n m, str ⟨#[]⟩, nilS, nilS]] [] (Ret (str (BA (numN n ++ [m])))) :=
  stellR_ok ⟨#[110, 98]⟩ [⟨n, emp⟩, ⟨m, emp⟩] _ (by decide) (by simp) (fun x hx => by
    simp only [List.mem_cons, List.not_mem_nil, or_false] at hx
    rcases hx with rfl | rfl
    · exact wi_pi h (by decide)
    · exact wi_pi (by omega) (by decide)) (pr_nb n hm)
theorem stellNTT (n : Nat) (s t : ByteArray) (hn : n < 18446744073709551616) (h : s.size ≤ 200) (h' : t.size ≤ 200) : ACalls Try.prog 20 [str ⟨#[110, 116, 116]⟩, .view 3 [u64n n, str ⟨#[]⟩, nilS, nilS, u64n 0, str s, nilS, nilS, u64n 0, str t, nilS, nilS]] [] (Ret (str (BA (numN n ++ (txB s ++ txB t))))) :=
  stellR_ok ⟨#[110, 116, 116]⟩ [⟨n, emp⟩, ⟨0, s⟩, ⟨0, t⟩] _ (by decide) (by simp) (fun x hx => by
    simp only [List.mem_cons, List.not_mem_nil, or_false] at hx
    rcases hx with rfl | rfl | rfl
    · exact wi_pi hn (by decide)
    · exact wi_pi (by decide) (by omega)
    · exact wi_pi (by decide) (by omega)) (pr_ntt n h h')
theorem stellN5 (a b c d e : Nat) (ha : a < 18446744073709551616) (hb : b < 18446744073709551616) (hc : c < 18446744073709551616) (hd : d < 18446744073709551616) (he : e < 18446744073709551616) : ACalls Try.prog 20 [str ⟨#[110, 110, 110, 110, 110]⟩, .view 5 [u64n a, str ⟨#[]⟩, nilS, nilS, u64n b, str ⟨#[]⟩, nilS, nilS, u64n c, str ⟨#[]⟩, nilS, nilS, u64n d, str ⟨#[]⟩, nilS, nilS, u64n e, str ⟨#[]⟩, nilS, nilS]] [] (Ret (str (BA (numN a ++ (numN b ++ (numN c ++ (numN d ++ numN e))))))) :=
  stellR_ok ⟨#[110, 110, 110, 110, 110]⟩ [⟨a, emp⟩, ⟨b, emp⟩, ⟨c, emp⟩, ⟨d, emp⟩, ⟨e, emp⟩] _ (by decide) (by simp) (fun x hx => by
    simp only [List.mem_cons, List.not_mem_nil, or_false] at hx
    rcases hx with rfl | rfl | rfl | rfl | rfl <;> exact wi_pi (by assumption) (by decide)) (pr_n5 a b c d e)
def rwB (w : Rw) : List Nat := numN w.r.toNat ++ (txB w.k ++ txB (packV w.n w.t w.b))
def nbB (p : Rp) : List Nat := numN p.n ++ [bN p.h]
def voB (p : Rp) : List Nat := bif p.h then txB (packV p.vn p.vt p.vb) else []
def tlB (p : Rp) : List Nat := numN p.tc.toNat ++ (numN p.ts ++ (numN p.tl ++ (numN p.tm ++ numN p.te)))
/-- A response's bytes up to its rows. -/
def hdB (p : Rp) : List Nat := (([0] ++ nbB p) ++ voB p) ++ numN p.L.length
def rsB (p : Rp) : List Nat := (hdB p ++ p.L.flatMap rwB) ++ tlB p
theorem tell_no (p : Rp) (hl : p.L.length < 4611686018427387904) (hr : FitsB p = false) : ACalls Try.prog 16 [.agg p.C] [] (Ret (.tup [str emp, i64 1])) := by
  have h1 := sfits_ok p hl
  rw [hr] at h1
  obtain ⟨c, n, h, vn, vt, vb, L, tc, ts, tl, tm, te⟩ := p
  clear hr
  cases h <;> cases vn <;>
  · refine acalls_of_awpU [] hT mixed Try.func16 rfl (by kernel_rfl) (by kernel_rfl) (Nat.le_of_ble_eq_true rfl) ?_
    refine callP h1 rfl rfl ?_
    refine callBad smust_no rfl ?_
    refine acallsD_of_rec hT mixed Try.func18 rfl (by kernel_rfl) (by kernel_rfl) rfl rfl rfl (splain) (Nat.le_of_ble_eq_true rfl) ?_
    exact ⟨rfl, [.dead, .row [i64 1]], _, ⟨⟨_, rfl, rfl⟩, ⟨.inr rfl, .inl rfl, True.intro⟩, Nat.le_of_ble_eq_true rfl, rfl⟩, True.intro, [], .tup [str emp, i64 1], ⟨⟨_, rfl, rfl⟩, True.intro, Nat.zero_le _, rfl⟩, rfl, rfl⟩
theorem tell_code (p : Rp) (c : Nat) (hpc : p.c = (c : Nat)) (hl : p.L.length < 4611686018427387904) (hc0 : c ≠ 0) (hc : c ≤ 20) (hr : FitsB p = true) : ACalls Try.prog 16 [.agg p.C] [] (Ret (.tup [str (BA [c]), i64 0])) := by
  have h1 := sfits_ok p hl
  rw [hr] at h1
  obtain ⟨c', n, h, vn, vt, vb, L, tc, ts, tl, tm, te⟩ := p
  dsimp only at hpc
  subst hpc
  clear hr
  have n1 := sNum_ok c (by omega)
  have ht := stellB c (by omega)
  cases h <;> cases vn <;>
  · refine acalls_of_awpU [] hT mixed Try.func16 rfl (by kernel_rfl) (by kernel_rfl) (Nat.le_of_ble_eq_true rfl) ?_
    refine callP h1 rfl rfl ?_
    refine callP smust_yes rfl rfl ?_
    refine callP n1 rfl rfl ?_
    refine callCut (bs := [str ⟨#[98]⟩, .view 1 [u64n c, str ⟨#[]⟩, nilS, nilS]]) 2 rfl ?_
    refine callS ht [] True.intro rfl ?_
    rintro E G ⟨rfl, rfl⟩ _
    refine ⟨_, _, rfl, rfl, ?_⟩
    refine fork (fun _ => ?_) (fun g => absurd (show (c : Int) = 0 from bne_eq_false_iff_eq.1 g) (by omega))
    refine acallsD_of_rec hT mixed Try.func18 rfl (by kernel_rfl) (by kernel_rfl) rfl rfl rfl (fun u b h => by cases h) (Nat.le_of_ble_eq_true rfl) ?_
    exact ⟨rfl, [.dead, .row [i64 0], .dead], _, ⟨⟨_, rfl, rfl⟩, ⟨.inr rfl, .inl rfl, .inr rfl, True.intro⟩, Nat.le_of_ble_eq_true rfl, rfl⟩, True.intro, [], .tup [str (BA [c]), i64 0], ⟨⟨_, rfl, rfl⟩, True.intro, Nat.zero_le _, rfl⟩, rfl, rfl⟩
theorem txB_len {s : ByteArray} (h : s.size ≤ 200) : (txB s).length ≤ 210 := by
  have := numN_len10 (show s.size < 18446744073709551616 by omega)
  unfold txB
  rw [List.length_append, byL_len]
  omega
theorem rwB_len {w : Rw} (h : fitsB w = true) : (rwB w).length ≤ 500 ∧ (0 ≤ w.r ∧ w.r ≤ 2147483647) ∧ w.k.size ≤ 200 ∧ rightV w.n w.t w.b = true := by
  unfold fitsB at h
  simp only [Bool.and_eq_true, decide_eq_true_eq] at h
  obtain ⟨h1, h2, h3⟩ := h
  have l1 := numN_len10 (show w.r.toNat < 18446744073709551616 by omega)
  have l2 := txB_len h2
  have l3 := txB_len (s := packV w.n w.t w.b) (by have := spackV_size h3; omega)
  refine ⟨?_, h1, h2, h3⟩
  unfold rwB
  rw [List.length_append, List.length_append]
  omega
theorem rows_len : ∀ {L : List Rw}, (∀ w ∈ L, fitsB w = true) → (L.flatMap rwB).length ≤ 500 * L.length
  | [], _ => Nat.le_refl _
  | w :: L, h => by
    have h1 := (rwB_len (h w (List.mem_cons_self ..))).1
    have h2 := rows_len fun x hx => h x (List.mem_cons_of_mem _ hx)
    rw [List.flatMap_cons, List.length_append, List.length_cons]
    omega
def accB (a : List Nat) (L : List Rw) (j : Nat) : List Nat := a ++ (L.take j).flatMap rwB
theorem accB_snoc {a : List Nat} {L : List Rw} {j : Nat} {x : Rw} (h : L[j]? = some x) : BA (accB a L j) ++ BA (rwB x) = BA (accB a L (j + 1)) := by
  rw [BA_append]
  congr 1
  unfold accB
  rw [take_snocA h, List.flatMap_append, List.flatMap_cons, List.flatMap_nil, List.append_nil, List.append_assoc]
theorem fits_0 {p : Rp} (hc : p.c = 0) (h : FitsB p = true) : rightV p.vn p.vt p.vb = true ∧ p.L.length ≤ 64 ∧ (∀ w ∈ p.L, fitsB w = true) ∧ (0 ≤ p.tc ∧ p.tc ≤ 2147483647) := by
  unfold FitsB at h
  rw [if_neg (by rw [hc]; decide), if_pos hc] at h
  simp only [Bool.and_eq_true, decide_eq_true_eq, List.all_eq_true] at h
  exact ⟨h.1, h.2.2.1, h.2.2.2.1, h.2.2.2.2⟩
theorem tell_fulltrue (p : Rp) (hp : p.ok) (hc : p.c = 0) (hh : p.h = true) (hr : FitsB p = true) : ACalls Try.prog 16 [.agg p.C] [] (Ret (.tup [str (BA (rsB p)), i64 0])) := by
  have h1 := sfits_ok p hp.L
  obtain ⟨hv, hll, hall, htc⟩ := fits_0 hc hr
  rw [hr] at h1
  have hrl : ∀ j, ((p.L.take j).flatMap rwB).length ≤ 32000 := fun j => by
    have := rows_len (L := p.L.take j) fun w hw => hall w (List.mem_of_mem_take hw)
    rw [List.length_take] at this
    omega
  have hpn := hp.n
  have hts := hp.ts
  have htl := hp.tl
  have htm := hp.tm
  have hte := hp.te
  have hb := hp.b
  have htw := stellT (packV p.vn p.vt p.vb) (by have := spackV_size hv; omega)
  have hwo := sWorth_ok p.vn p.vt p.vb hp.vb hv
  have hvs := spackV_size hv
  have bh := bN_le p.h
  have nh := sTruth_ok p.h
  have tnb := stellNB p.n (bN p.h) hpn (by omega)
  have nl := sNum_ok p.L.length (by omega)
  have tln := stellN p.L.length (by omega)
  have e0 : BA [0] ++ BA (nbB p) = BA ([0] ++ nbB p) := BA_append _ _
  have ev : BA ([0] ++ nbB p) ++ BA (voB p) = BA (([0] ++ nbB p) ++ voB p) := BA_append _ _
  have el : BA (([0] ++ nbB p) ++ voB p) ++ BA (numN p.L.length) = BA (accB (hdB p) p.L 0) := by rw [BA_append]; congr 1; unfold accB hdB; simp
  have ef : BA (accB (hdB p) p.L p.L.length) ++ BA (tlB p) = BA (rsB p) := by rw [BA_append]; congr 1; unfold accB rsB; rw [List.take_length]
  have z0 : ([0] ++ nbB p).length ≤ 20 := by have := numN_len10 hpn; unfold nbB; simp only [List.length_append, List.length_cons, List.length_nil]; omega
  have zv : (voB p).length ≤ 210 := by
    unfold voB
    cases p.h with
    | false => exact Nat.zero_le _
    | true => exact txB_len (by omega)
  have zl := numN_len10 (show p.L.length < 18446744073709551616 by omega)
  have zt : (tlB p).length ≤ 50 := by
    have := numN_len10 (show p.tc.toNat < 18446744073709551616 by omega)
    have := numN_len10 hts
    have := numN_len10 htl
    have := numN_len10 htm
    have := numN_len10 hte
    unfold tlB
    simp only [List.length_append]
    omega
  have za : ∀ j, (accB (hdB p) p.L j).length ≤ 33000 := fun j => by
    have := hrl j
    unfold accB hdB
    simp only [List.length_append] at z0 ⊢
    omega
  have hsn := fun {j x} => accB_snoc (a := hdB p) (L := p.L) (j := j) (x := x)
  have q0 : (BA [0]).size + (BA (nbB p)).size ≤ 9223372036854775807 := by rw [BA_size, BA_size]; simp only [List.length_append] at z0; omega
  have qv : (BA ([0] ++ nbB p)).size + (BA (voB p)).size ≤ 9223372036854775807 := by rw [BA_size, BA_size]; omega
  have ql : (BA (([0] ++ nbB p) ++ voB p)).size + (BA (numN p.L.length)).size ≤ 9223372036854775807 := by rw [BA_size, BA_size, List.length_append]; omega
  have qf : (BA (accB (hdB p) p.L p.L.length)).size + (BA (tlB p)).size ≤ 9223372036854775807 := by have := za p.L.length; rw [BA_size, BA_size]; omega
  have qj : ∀ j x, fitsB x = true → (BA (accB (hdB p) p.L j)).size + (BA (rwB x)).size ≤ 9223372036854775807 := fun j x hx => by have := za j; have := (rwB_len hx).1; rw [BA_size, BA_size]; omega
  obtain ⟨k, hk⟩ : ∃ k : Nat, p.tc = (k : Int) := ⟨p.tc.toNat, by omega⟩
  have nt := sNum_ok k (by omega)
  have t5 := stellN5 k p.ts p.tl p.tm p.te (by omega) hts htl htm hte
  rw [show numN k ++ (numN p.ts ++ (numN p.tl ++ (numN p.tm ++ numN p.te))) = tlB p by unfold tlB; rw [hk, Int.toNat_natCast]] at t5
  rw [show numN p.n ++ [bN p.h] = nbB p from rfl] at tnb
  have tb := stellB 0 (by decide)
  have n0 := sNum_ok 0 (by decide)
  rw [← ef]
  have bal : ((BA [0] ++ BA (nbB p)) ++ BA (txB (packV p.vn p.vt p.vb))) ++ BA (numN p.L.length) = BA (accB (hdB p) p.L 0) := by rw [← el, ← ev, ← e0]; unfold voB; rw [hh]; rfl
  have qv' : (BA [0] ++ BA (nbB p)).size + (BA (txB (packV p.vn p.vt p.vb))).size ≤ 9223372036854775807 := by rw [e0]; unfold voB at qv; rw [hh] at qv; exact qv
  have ql' : ((BA [0] ++ BA (nbB p)) ++ BA (txB (packV p.vn p.vt p.vb))).size + (BA (numN p.L.length)).size ≤ 9223372036854775807 := by rw [← ev, ← e0] at ql; unfold voB at ql; rw [hh] at ql; exact ql
  generalize accB (hdB p) p.L = acc at *
  generalize ([0] ++ nbB p) ++ voB p = a2 at *
  generalize [0] ++ nbB p = a1 at *
  generalize nbB p = b1 at *
  generalize tlB p = b5 at *
  clear ef za zt z0 zl hrl hr hp hts htl htm hte hpn ev el e0 qv ql
  generalize BA (numN p.L.length) = b3 at *
  generalize bN p.h = bnh at *
  obtain ⟨c, n, h, vn, vt, vb, L, tc, ts, tl, tm, te⟩ := p
  dsimp only at *
  subst hc hk hh
  cases vn <;>
  · clear hvs zv hv
    refine acalls_of_awpU [] hT mixed Try.func16 rfl (by kernel_rfl) (by kernel_rfl) (Nat.le_of_ble_eq_true rfl) ?_
    refine callP h1 rfl rfl ?_
    refine callP smust_yes rfl rfl ?_
    refine callP n0 rfl rfl ?_
    refine callCut (bs := [str ⟨#[98]⟩, .view 1 [u64n 0, str ⟨#[]⟩, nilS, nilS]]) 2 rfl ?_
    refine callS tb [] True.intro rfl ?_
    rintro E G ⟨rfl, rfl⟩ _
    refine ⟨_, _, rfl, rfl, ?_⟩
    refine ⟨[0, 0, 0, 0, 0, 0, 1, 1, 2, 2, 2], [[], [], [1], [1, 2], [], [4], [4, 5], [1, 2, 3, 4, 5, 6], [1, 2, 3, 4, 5, 6, 7], [0, 1, 2, 3, 4, 5, 6, 7, 8], [0, 1, 2, 3, 4, 5, 6, 7, 8, 9]], [0, 0, 0, 0, 0, 0, 0, 0, 1, 1, 1], [6, 8], [[4], [1], [21], [22], [1], [24], [25], [23, 26], [27], [20, 28], [29]], Ob.intro (by kernel_rfl) ?_⟩
    repeat refine same ?_
    refine callP nh rfl rfl ?_
    repeat refine same ?_
    refine callCut (bs := [str ⟨#[110, 98]⟩, .view 2 [u64n n, str ⟨#[]⟩, nilS, nilS, u64n bnh, str ⟨#[]⟩, nilS, nilS]]) 2 rfl ?_
    refine callS tnb [] True.intro rfl ?_
    rintro E G ⟨rfl, rfl⟩ _
    refine ⟨_, _, rfl, rfl, ?_⟩
    repeat first | refine same ?_ | refine Ob.intro q0 ?_
    refine callP hwo rfl rfl ?_
    refine callCut (bs := [str ⟨#[116]⟩, .view 1 [u64n 0, str (packV _ vt vb), nilS, nilS]]) 2 rfl ?_
    refine callS htw [] True.intro rfl ?_
    rintro E G ⟨rfl, rfl⟩ _
    refine ⟨_, _, rfl, rfl, ?_⟩
    refine Ob.intro qv' ?_
    refine callP nl rfl rfl ?_
    refine callCut (bs := [str ⟨#[110]⟩, .view 1 [u64n L.length, str ⟨#[]⟩, nilS, nilS]]) 2 rfl ?_
    refine callS tln [] True.intro rfl ?_
    rintro E G ⟨rfl, rfl⟩ _
    refine ⟨_, _, rfl, rfl, ?_⟩
    refine Ob.intro ql' ?_
    refine loopG (α := { j : Nat // j ≤ L.length }) (fun x => [(1, .ptr 0 0), (3, .ptr 1 0), (4, str (BA (acc x.val))), (48, rwV L), (49, i64 L.length), (50, i64 (x.val : Nat))]) (fun _ => [.row (Rp.C ⟨0, n, true, _, vt, vb, L, (k : Nat), ts, tl, tm, te⟩), .row [i64 0]]) [⟨18, [], [.ptr 1 0, i64 1]⟩] (fun x => L.length - x.val) ⟨0, Nat.zero_le _⟩ [] [0, 1] ⟨⟨rfl, rfl, congrArg str bal, rfl, rfl, rfl, True.intro⟩, ⟨.inl rfl, .inl rfl, True.intro⟩, rfl, rfl, rfl⟩ ?_
    rintro ⟨j, hj⟩ K hK
    have hinc : wrp .i64 ((j : Int) + 1) = ((j + 1 : Nat) : Int) := by rw [wrpE, wi64]; omega
    refine forkD (fun a => ?_) (fun a => ?_)
    · have h' : j < L.length := by have : (j : Int) < (L.length : Int) := a; omega
      obtain ⟨y, hy⟩ : ∃ y, L[j]? = some y := ⟨_, List.getElem?_eq_getElem h'⟩
      have hik : (0 : Int) ≤ (j : Nat) ∧ ((j : Nat) : Int) < (L.length : Nat) := by omega
      have ct := flat_takeN rwC_len hy
      have hmem := List.mem_of_getElem? hy
      obtain ⟨r1, r2, r3, r4⟩ := rwB_len (hall y hmem)
      have sn := hsn hy
      have hsz := qj j y (hall y hmem)
      have hyb := hb y hmem
      have w1 := sText_ok y.k
      have w2 := sWorth_ok y.n y.t y.b hyb r4
      have w3 := sNum_ok y.r.toNat (by omega)
      have w4 := stellNTT y.r.toNat y.k (packV y.n y.t y.b) (by omega) r3 (by have := spackV_size r4; omega)
      rw [show numN y.r.toNat ++ (txB y.k ++ txB (packV y.n y.t y.b)) = rwB y from rfl] at w4
      generalize BA (rwB y) = X2 at sn hsz w4
      generalize BA (acc j) = X0 at sn hsz ⊢
      obtain ⟨r, yk, yn, yt, yb⟩ := y
      dsimp only at r2 w1 w2 w3 w4
      obtain ⟨r, rfl⟩ : ∃ m : Nat, r = (m : Int) := ⟨r.toNat, by omega⟩
      rw [Int.toNat_natCast] at w3 w4
      clear hy hall r1 r2 r3 r4
      generalize packV yn yt yb = yp at w2 w4
      cases yn <;>
      · refine Ob.intro hik ?_
        refine optK_intro ct ?_
        refine ⟨[0, 0, 0, 1, 0, 0, 2, 0, 0, 3, 3, 4, 4, 4], [[], [], [1], [1, 2], [], [4], [1, 2, 3, 4, 5], [], [7], [1, 2, 3, 4, 5, 6, 7, 8], [1, 2, 3, 4, 5, 6, 7, 8, 9], [1, 2, 3, 4, 5, 6, 7, 8, 9, 10], [0, 1, 2, 3, 4, 5, 6, 7, 8, 9, 10, 11], [0, 1, 2, 3, 4, 5, 6, 7, 8, 9, 10, 11, 12]], [0, 0, 0, 0, 0, 0, 0, 0, 0, 0, 0, 1, 1, 1], [3, 6, 9, 11], [[4], [6], [55], [56], [6], [58], [59], [6], [61], [62], [57, 60, 63], [64], [54, 65], [66]], Ob.intro (by kernel_rfl) ?_⟩
        repeat refine same ?_
        refine callP w3 rfl rfl ?_
        repeat refine same ?_
        refine callP w1 rfl rfl ?_
        repeat refine same ?_
        refine callP w2 rfl rfl ?_
        repeat refine same ?_
        refine callCut (bs := [str ⟨#[110, 116, 116]⟩, .view 3 [u64n r, str ⟨#[]⟩, nilS, nilS, u64n 0, str yk, nilS, nilS, u64n 0, str yp, nilS, nilS]]) 2 rfl ?_
        refine callS w4 [] True.intro rfl ?_
        rintro E G ⟨rfl, rfl⟩ _
        refine ⟨_, _, rfl, rfl, ?_⟩
        repeat first | refine same ?_ | refine Ob.intro hsz ?_
        exact hK ⟨j + 1, h'⟩ [] [0, 1] _ (show L.length - j = L.length - (j + 1) + 1 by omega) ⟨⟨rfl, rfl, congrArg str sn, rfl, rfl, congrArg i64 hinc, True.intro⟩, ⟨.inl rfl, .inl rfl, True.intro⟩, rfl, rfl, rfl⟩
    · have h' : j = L.length := by have : ¬ (j : Int) < (L.length : Int) := a; omega
      subst h'
      refine ⟨[0, 0, 0, 1, 0, 0, 0, 0, 0, 0, 0, 0, 0, 0, 0, 0, 1, 2, 2, 2, 3], [[], [], [1], [1, 2], [], [4], [4, 5], [], [7], [7, 8], [], [10], [10, 11], [], [13], [13, 14], [1, 2, 3, 4, 5, 6, 7, 8, 9, 10, 11, 12, 13, 14, 15], [1, 2, 3, 4, 5, 6, 7, 8, 9, 10, 11, 12, 13, 14, 15, 16], [0, 1, 2, 3, 4, 5, 6, 7, 8, 9, 10, 11, 12, 13, 14, 15, 16, 17], [0, 1, 2, 3, 4, 5, 6, 7, 8, 9, 10, 11, 12, 13, 14, 15, 16, 17, 18], [0, 1, 2, 3, 4, 5, 6, 7, 8, 9, 10, 11, 12, 13, 14, 15, 16, 17, 18, 19]], [0, 0, 0, 0, 0, 0, 0, 0, 0, 0, 0, 0, 0, 0, 0, 0, 0, 1, 1, 1, 1], [3, 17, 20], [[4], [7], [71], [72], [7], [74], [75], [7], [77], [78], [7], [80], [81], [7], [83], [84], [73, 76, 79, 82, 85], [86], [70, 87], [88], [3]], Ob.intro (by kernel_rfl) ?_⟩
      repeat refine same ?_
      refine callP nt rfl rfl ?_
      repeat refine same ?_
      refine callCut (bs := [str ⟨#[110, 110, 110, 110, 110]⟩, .view 5 [u64n k, str ⟨#[]⟩, nilS, nilS, u64n ts, str ⟨#[]⟩, nilS, nilS, u64n tl, str ⟨#[]⟩, nilS, nilS, u64n tm, str ⟨#[]⟩, nilS, nilS, u64n te, str ⟨#[]⟩, nilS, nilS]]) 2 rfl ?_
      refine callS t5 [] True.intro rfl ?_
      rintro E G ⟨rfl, rfl⟩ _
      refine ⟨_, _, rfl, rfl, ?_⟩
      repeat first | refine same ?_ | refine Ob.intro qf ?_
      refine acallsD_of_rec hT mixed Try.func18 rfl (by kernel_rfl) (by kernel_rfl) rfl rfl rfl (fun u b h => by cases h) (Nat.le_of_ble_eq_true rfl) ?_
      exact ⟨rfl, [.dead, .row [i64 0], .dead, .dead], _, ⟨⟨_, rfl, rfl⟩, ⟨.inr rfl, .inl rfl, .inr rfl, .inr rfl, True.intro⟩, Nat.le_of_ble_eq_true rfl, rfl⟩, True.intro, [], .tup [str (BA (acc L.length) ++ BA b5), i64 0], ⟨⟨_, rfl, rfl⟩, True.intro, Nat.zero_le _, rfl⟩, rfl, rfl⟩
theorem tell_fullfalse (p : Rp) (hp : p.ok) (hc : p.c = 0) (hh : p.h = false) (hr : FitsB p = true) : ACalls Try.prog 16 [.agg p.C] [] (Ret (.tup [str (BA (rsB p)), i64 0])) := by
  have h1 := sfits_ok p hp.L
  obtain ⟨hv, hll, hall, htc⟩ := fits_0 hc hr
  rw [hr] at h1
  have hrl : ∀ j, ((p.L.take j).flatMap rwB).length ≤ 32000 := fun j => by
    have := rows_len (L := p.L.take j) fun w hw => hall w (List.mem_of_mem_take hw)
    rw [List.length_take] at this
    omega
  have hpn := hp.n
  have hts := hp.ts
  have htl := hp.tl
  have htm := hp.tm
  have hte := hp.te
  have hb := hp.b
  have htw := stellT (packV p.vn p.vt p.vb) (by have := spackV_size hv; omega)
  have hwo := sWorth_ok p.vn p.vt p.vb hp.vb hv
  have hvs := spackV_size hv
  have bh := bN_le p.h
  have nh := sTruth_ok p.h
  have tnb := stellNB p.n (bN p.h) hpn (by omega)
  have nl := sNum_ok p.L.length (by omega)
  have tln := stellN p.L.length (by omega)
  have e0 : BA [0] ++ BA (nbB p) = BA ([0] ++ nbB p) := BA_append _ _
  have ev : BA ([0] ++ nbB p) ++ BA (voB p) = BA (([0] ++ nbB p) ++ voB p) := BA_append _ _
  have el : BA (([0] ++ nbB p) ++ voB p) ++ BA (numN p.L.length) = BA (accB (hdB p) p.L 0) := by rw [BA_append]; congr 1; unfold accB hdB; simp
  have ef : BA (accB (hdB p) p.L p.L.length) ++ BA (tlB p) = BA (rsB p) := by rw [BA_append]; congr 1; unfold accB rsB; rw [List.take_length]
  have z0 : ([0] ++ nbB p).length ≤ 20 := by have := numN_len10 hpn; unfold nbB; simp only [List.length_append, List.length_cons, List.length_nil]; omega
  have zv : (voB p).length ≤ 210 := by
    unfold voB
    cases p.h with
    | false => exact Nat.zero_le _
    | true => exact txB_len (by omega)
  have zl := numN_len10 (show p.L.length < 18446744073709551616 by omega)
  have zt : (tlB p).length ≤ 50 := by
    have := numN_len10 (show p.tc.toNat < 18446744073709551616 by omega)
    have := numN_len10 hts
    have := numN_len10 htl
    have := numN_len10 htm
    have := numN_len10 hte
    unfold tlB
    simp only [List.length_append]
    omega
  have za : ∀ j, (accB (hdB p) p.L j).length ≤ 33000 := fun j => by
    have := hrl j
    unfold accB hdB
    simp only [List.length_append] at z0 ⊢
    omega
  have hsn := fun {j x} => accB_snoc (a := hdB p) (L := p.L) (j := j) (x := x)
  have q0 : (BA [0]).size + (BA (nbB p)).size ≤ 9223372036854775807 := by rw [BA_size, BA_size]; simp only [List.length_append] at z0; omega
  have qv : (BA ([0] ++ nbB p)).size + (BA (voB p)).size ≤ 9223372036854775807 := by rw [BA_size, BA_size]; omega
  have ql : (BA (([0] ++ nbB p) ++ voB p)).size + (BA (numN p.L.length)).size ≤ 9223372036854775807 := by rw [BA_size, BA_size, List.length_append]; omega
  have qf : (BA (accB (hdB p) p.L p.L.length)).size + (BA (tlB p)).size ≤ 9223372036854775807 := by have := za p.L.length; rw [BA_size, BA_size]; omega
  have qj : ∀ j x, fitsB x = true → (BA (accB (hdB p) p.L j)).size + (BA (rwB x)).size ≤ 9223372036854775807 := fun j x hx => by have := za j; have := (rwB_len hx).1; rw [BA_size, BA_size]; omega
  obtain ⟨k, hk⟩ : ∃ k : Nat, p.tc = (k : Int) := ⟨p.tc.toNat, by omega⟩
  have nt := sNum_ok k (by omega)
  have t5 := stellN5 k p.ts p.tl p.tm p.te (by omega) hts htl htm hte
  rw [show numN k ++ (numN p.ts ++ (numN p.tl ++ (numN p.tm ++ numN p.te))) = tlB p by unfold tlB; rw [hk, Int.toNat_natCast]] at t5
  rw [show numN p.n ++ [bN p.h] = nbB p from rfl] at tnb
  have tb := stellB 0 (by decide)
  have n0 := sNum_ok 0 (by decide)
  rw [← ef]
  have bal : (BA [0] ++ BA (nbB p)) ++ BA (numN p.L.length) = BA (accB (hdB p) p.L 0) := by rw [← el, ← ev, ← e0]; unfold voB; rw [hh]; show _ = (BA [0] ++ BA (nbB p) ++ BA []) ++ _; rw [BA_append, BA_append, BA_append, List.append_nil, BA_append]
  have qv' : True := True.intro
  have ql' : (BA [0] ++ BA (nbB p)).size + (BA (numN p.L.length)).size ≤ 9223372036854775807 := by rw [← ev, ← e0] at ql; unfold voB at ql; rw [hh] at ql; simp only [size_append] at ql ⊢; omega
  generalize accB (hdB p) p.L = acc at *
  generalize ([0] ++ nbB p) ++ voB p = a2 at *
  generalize [0] ++ nbB p = a1 at *
  generalize nbB p = b1 at *
  generalize tlB p = b5 at *
  clear ef za zt z0 zl hrl hr hp hts htl htm hte hpn ev el e0 qv ql
  generalize BA (numN p.L.length) = b3 at *
  generalize bN p.h = bnh at *
  obtain ⟨c, n, h, vn, vt, vb, L, tc, ts, tl, tm, te⟩ := p
  dsimp only at *
  subst hc hk hh
  cases vn <;>
  · clear hvs zv hv
    refine acalls_of_awpU [] hT mixed Try.func16 rfl (by kernel_rfl) (by kernel_rfl) (Nat.le_of_ble_eq_true rfl) ?_
    refine callP h1 rfl rfl ?_
    refine callP smust_yes rfl rfl ?_
    refine callP n0 rfl rfl ?_
    refine callCut (bs := [str ⟨#[98]⟩, .view 1 [u64n 0, str ⟨#[]⟩, nilS, nilS]]) 2 rfl ?_
    refine callS tb [] True.intro rfl ?_
    rintro E G ⟨rfl, rfl⟩ _
    refine ⟨_, _, rfl, rfl, ?_⟩
    refine ⟨[0, 0, 0, 0, 0, 0, 1, 1, 2, 2, 2], [[], [], [1], [1, 2], [], [4], [4, 5], [1, 2, 3, 4, 5, 6], [1, 2, 3, 4, 5, 6, 7], [0, 1, 2, 3, 4, 5, 6, 7, 8], [0, 1, 2, 3, 4, 5, 6, 7, 8, 9]], [0, 0, 0, 0, 0, 0, 0, 0, 1, 1, 1], [6, 8], [[4], [1], [21], [22], [1], [24], [25], [23, 26], [27], [20, 28], [29]], Ob.intro (by kernel_rfl) ?_⟩
    repeat refine same ?_
    refine callP nh rfl rfl ?_
    repeat refine same ?_
    refine callCut (bs := [str ⟨#[110, 98]⟩, .view 2 [u64n n, str ⟨#[]⟩, nilS, nilS, u64n bnh, str ⟨#[]⟩, nilS, nilS]]) 2 rfl ?_
    refine callS tnb [] True.intro rfl ?_
    rintro E G ⟨rfl, rfl⟩ _
    refine ⟨_, _, rfl, rfl, ?_⟩
    repeat first | refine same ?_ | refine Ob.intro q0 ?_
    skip
    refine callP nl rfl rfl ?_
    refine callCut (bs := [str ⟨#[110]⟩, .view 1 [u64n L.length, str ⟨#[]⟩, nilS, nilS]]) 2 rfl ?_
    refine callS tln [] True.intro rfl ?_
    rintro E G ⟨rfl, rfl⟩ _
    refine ⟨_, _, rfl, rfl, ?_⟩
    refine Ob.intro ql' ?_
    refine loopG (α := { j : Nat // j ≤ L.length }) (fun x => [(1, .ptr 0 0), (3, .ptr 1 0), (4, str (BA (acc x.val))), (48, rwV L), (49, i64 L.length), (50, i64 (x.val : Nat))]) (fun _ => [.row (Rp.C ⟨0, n, false, _, vt, vb, L, (k : Nat), ts, tl, tm, te⟩), .row [i64 0]]) [⟨18, [], [.ptr 1 0, i64 1]⟩] (fun x => L.length - x.val) ⟨0, Nat.zero_le _⟩ [] [0, 1] ⟨⟨rfl, rfl, congrArg str bal, rfl, rfl, rfl, True.intro⟩, ⟨.inl rfl, .inl rfl, True.intro⟩, rfl, rfl, rfl⟩ ?_
    rintro ⟨j, hj⟩ K hK
    have hinc : wrp .i64 ((j : Int) + 1) = ((j + 1 : Nat) : Int) := by rw [wrpE, wi64]; omega
    refine forkD (fun a => ?_) (fun a => ?_)
    · have h' : j < L.length := by have : (j : Int) < (L.length : Int) := a; omega
      obtain ⟨y, hy⟩ : ∃ y, L[j]? = some y := ⟨_, List.getElem?_eq_getElem h'⟩
      have hik : (0 : Int) ≤ (j : Nat) ∧ ((j : Nat) : Int) < (L.length : Nat) := by omega
      have ct := flat_takeN rwC_len hy
      have hmem := List.mem_of_getElem? hy
      obtain ⟨r1, r2, r3, r4⟩ := rwB_len (hall y hmem)
      have sn := hsn hy
      have hsz := qj j y (hall y hmem)
      have hyb := hb y hmem
      have w1 := sText_ok y.k
      have w2 := sWorth_ok y.n y.t y.b hyb r4
      have w3 := sNum_ok y.r.toNat (by omega)
      have w4 := stellNTT y.r.toNat y.k (packV y.n y.t y.b) (by omega) r3 (by have := spackV_size r4; omega)
      rw [show numN y.r.toNat ++ (txB y.k ++ txB (packV y.n y.t y.b)) = rwB y from rfl] at w4
      generalize BA (rwB y) = X2 at sn hsz w4
      generalize BA (acc j) = X0 at sn hsz ⊢
      obtain ⟨r, yk, yn, yt, yb⟩ := y
      dsimp only at r2 w1 w2 w3 w4
      obtain ⟨r, rfl⟩ : ∃ m : Nat, r = (m : Int) := ⟨r.toNat, by omega⟩
      rw [Int.toNat_natCast] at w3 w4
      clear hy hall r1 r2 r3 r4
      generalize packV yn yt yb = yp at w2 w4
      cases yn <;>
      · refine Ob.intro hik ?_
        refine optK_intro ct ?_
        refine ⟨[0, 0, 0, 1, 0, 0, 2, 0, 0, 3, 3, 4, 4, 4], [[], [], [1], [1, 2], [], [4], [1, 2, 3, 4, 5], [], [7], [1, 2, 3, 4, 5, 6, 7, 8], [1, 2, 3, 4, 5, 6, 7, 8, 9], [1, 2, 3, 4, 5, 6, 7, 8, 9, 10], [0, 1, 2, 3, 4, 5, 6, 7, 8, 9, 10, 11], [0, 1, 2, 3, 4, 5, 6, 7, 8, 9, 10, 11, 12]], [0, 0, 0, 0, 0, 0, 0, 0, 0, 0, 0, 1, 1, 1], [3, 6, 9, 11], [[4], [6], [55], [56], [6], [58], [59], [6], [61], [62], [57, 60, 63], [64], [54, 65], [66]], Ob.intro (by kernel_rfl) ?_⟩
        repeat refine same ?_
        refine callP w3 rfl rfl ?_
        repeat refine same ?_
        refine callP w1 rfl rfl ?_
        repeat refine same ?_
        refine callP w2 rfl rfl ?_
        repeat refine same ?_
        refine callCut (bs := [str ⟨#[110, 116, 116]⟩, .view 3 [u64n r, str ⟨#[]⟩, nilS, nilS, u64n 0, str yk, nilS, nilS, u64n 0, str yp, nilS, nilS]]) 2 rfl ?_
        refine callS w4 [] True.intro rfl ?_
        rintro E G ⟨rfl, rfl⟩ _
        refine ⟨_, _, rfl, rfl, ?_⟩
        repeat first | refine same ?_ | refine Ob.intro hsz ?_
        exact hK ⟨j + 1, h'⟩ [] [0, 1] _ (show L.length - j = L.length - (j + 1) + 1 by omega) ⟨⟨rfl, rfl, congrArg str sn, rfl, rfl, congrArg i64 hinc, True.intro⟩, ⟨.inl rfl, .inl rfl, True.intro⟩, rfl, rfl, rfl⟩
    · have h' : j = L.length := by have : ¬ (j : Int) < (L.length : Int) := a; omega
      subst h'
      refine ⟨[0, 0, 0, 1, 0, 0, 0, 0, 0, 0, 0, 0, 0, 0, 0, 0, 1, 2, 2, 2, 3], [[], [], [1], [1, 2], [], [4], [4, 5], [], [7], [7, 8], [], [10], [10, 11], [], [13], [13, 14], [1, 2, 3, 4, 5, 6, 7, 8, 9, 10, 11, 12, 13, 14, 15], [1, 2, 3, 4, 5, 6, 7, 8, 9, 10, 11, 12, 13, 14, 15, 16], [0, 1, 2, 3, 4, 5, 6, 7, 8, 9, 10, 11, 12, 13, 14, 15, 16, 17], [0, 1, 2, 3, 4, 5, 6, 7, 8, 9, 10, 11, 12, 13, 14, 15, 16, 17, 18], [0, 1, 2, 3, 4, 5, 6, 7, 8, 9, 10, 11, 12, 13, 14, 15, 16, 17, 18, 19]], [0, 0, 0, 0, 0, 0, 0, 0, 0, 0, 0, 0, 0, 0, 0, 0, 0, 1, 1, 1, 1], [3, 17, 20], [[4], [7], [71], [72], [7], [74], [75], [7], [77], [78], [7], [80], [81], [7], [83], [84], [73, 76, 79, 82, 85], [86], [70, 87], [88], [3]], Ob.intro (by kernel_rfl) ?_⟩
      repeat refine same ?_
      refine callP nt rfl rfl ?_
      repeat refine same ?_
      refine callCut (bs := [str ⟨#[110, 110, 110, 110, 110]⟩, .view 5 [u64n k, str ⟨#[]⟩, nilS, nilS, u64n ts, str ⟨#[]⟩, nilS, nilS, u64n tl, str ⟨#[]⟩, nilS, nilS, u64n tm, str ⟨#[]⟩, nilS, nilS, u64n te, str ⟨#[]⟩, nilS, nilS]]) 2 rfl ?_
      refine callS t5 [] True.intro rfl ?_
      rintro E G ⟨rfl, rfl⟩ _
      refine ⟨_, _, rfl, rfl, ?_⟩
      repeat first | refine same ?_ | refine Ob.intro qf ?_
      refine acallsD_of_rec hT mixed Try.func18 rfl (by kernel_rfl) (by kernel_rfl) rfl rfl rfl (fun u b h => by cases h) (Nat.le_of_ble_eq_true rfl) ?_
      exact ⟨rfl, [.dead, .row [i64 0], .dead, .dead], _, ⟨⟨_, rfl, rfl⟩, ⟨.inr rfl, .inl rfl, .inr rfl, .inr rfl, True.intro⟩, Nat.le_of_ble_eq_true rfl, rfl⟩, True.intro, [], .tup [str (BA (acc L.length) ++ BA b5), i64 0], ⟨⟨_, rfl, rfl⟩, True.intro, Nat.zero_le _, rfl⟩, rfl, rfl⟩
end Go.Proofs.Ytgchhmfobkcnfaa.A
