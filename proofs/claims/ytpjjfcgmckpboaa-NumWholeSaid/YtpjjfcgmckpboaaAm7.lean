/- One operation's abstract step is the model's step: all that calls nothing. No condition. -/
import Derived.Test.YtpjjfcgmckpboaaAm6
namespace Go.Proofs.Ytpjjfcgmckpboaa.A
open Go
set_option linter.unusedVariables false
set_option linter.unusedSimpArgs false

section
variable {P : Program} {T : Tab} {X : Ctx} {H : Heap}

theorem intOf_VR {a : AV} {i : Int} {v : Value} (h : intOf a = some i) (hv : VR X a v) : ∃ k, v = .int k i := by
  unfold intOf at h
  split at h
  · simp only [Option.some.injEq] at h
    subst h
    rw [VR_int] at hv
    exact ⟨_, hv⟩
  · cases h
theorem VC.drop {ad : Addr} : ∀ {cs : List AV} {k : Nat} (n : Nat), VC X (some ad) k cs → VC X (some ad) (k + n) (cs.drop n)
  | _, _, 0, h => by simpa using h
  | [], k, n + 1, _ => by simp [VC]
  | c :: cs, k, n + 1, h => by
    simp only [VC] at h
    have := VC.drop n h.2
    rw [show k + (n + 1) = k + 1 + n by omega]
    simpa using this
theorem VC.take {ad : Addr} : ∀ {cs : List AV} {k : Nat} (n : Nat), VC X (some ad) k cs → VC X (some ad) k (cs.take n)
  | _, _, 0, h => by simp [VC]
  | [], k, n + 1, _ => by simp [VC]
  | c :: cs, k, n + 1, h => by
    simp only [VC] at h
    simp only [List.take_succ_cons, VC]
    exact ⟨h.1, VC.take n h.2⟩
theorem VC.shift {ad : Addr} (hs : ad.spot = none) {cs : List AV} {k : Nat} (h : VC X (some ad) k cs) : VC X (some (ad.add k)) 0 cs := by
  rw [add_spot ad k hs]
  cases cs with
  | nil => simp [VC]
  | cons c cs =>
    have h0 := h.get' 0 c rfl
    obtain ⟨a, v', e, _, hF, _⟩ := h0
    cases e
    refine VC.of_get (ad := ⟨ad.block, ad.off + k, none⟩) rfl hF fun i x hx => ?_
    obtain ⟨a, v', e, _, _, h1, h2⟩ := h.get' i x hx
    cases e
    exact ⟨v', by simpa [Nat.add_assoc] using h1, h2⟩
theorem VC.gets {ad : Addr} {cs : List AV} (hs : ad.spot = none) (h : VC X (some ad) 0 cs) (j : Nat) (c : AV) (hc : cs[j]? = some c) :
    ∃ v, X.w.cell? ⟨ad.block, ad.off + j, none⟩ = some v ∧ VR X c v := by
  obtain ⟨a, v', e, _, _, h1, h2⟩ := h.get j c hc
  cases e
  exact ⟨v', by simpa using h1, h2⟩
theorem VC.none {k : Nat} : ∀ {cs : List AV}, VC X none k cs → cs = []
  | [], _ => rfl
  | c :: cs, h => by
    simp only [VC] at h
    obtain ⟨⟨a, _, e, _⟩, _⟩ := h
    cases e

theorem load_run (hT : TOk P T) (hr : HR X H) {t : TypeId} {a : AV} {v : Value} {i : TI} (hi : T t = some i) {K : AV → Prop}
    (h : match a with
      | .ptr p off => If i.d.agg (optK (rdN H p off i.size) fun cs => K (.agg cs)) (optK (rd1 H p off) fun c => K c)
      | .vp cells => If i.d.agg (Ob (i.size ≤ cells.length) (K (.agg (cells.take i.size)))) (optK (nth cells 0) fun c => K c)
      | _ => False) (hv : VR X a v) : ∃ c u, K c ∧ (Instr.loadAt t v).run P X.w = .ok u X.w ∧ VR X c u := by
  have ht := hT t i hi
  split at h
  · rename_i p off
    simp only [VR] at hv
    obtain ⟨b, hb, rfl⟩ := hv
    cases hd : i.d.agg with
    | true =>
      simp only [hd, If] at h
      obtain ⟨cs, hc, hk⟩ := optK_elim h
      obtain ⟨h1, h2⟩ := rdN_get hr hb hc
      obtain ⟨u, h3, h4⟩ := loadVar_agg (X := X) ht hd (a := ⟨b.block, b.off + off, none⟩) rfl h2 h1
      exact ⟨_, u, hk, h3, h4⟩
    | false =>
      simp only [hd, If] at h
      obtain ⟨c, hc, hk⟩ := optK_elim h
      obtain ⟨u, h3, h4⟩ := rd1_get hr hb hc
      exact ⟨_, u, hk, loadVar_one ht hd h3, h4⟩
  · rename_i cells
    simp only [VR] at hv
    obtain ⟨ad, rfl, hs, hc⟩ := hv
    cases hd : i.d.agg with
    | true =>
      simp only [hd, If] at h
      obtain ⟨hle, hk⟩ := h
      obtain ⟨u, h3, h4⟩ := loadVar_agg (X := X) ht hd (a := ad) (cs := cells.take i.size) hs (fun j c hj => (hc.take i.size).gets hs j c hj) (by simp; omega)
      exact ⟨_, u, hk, h3, h4⟩
    | false =>
      simp only [hd, If] at h
      obtain ⟨c, hc', hk⟩ := optK_elim h
      rw [nth_eq] at hc'
      obtain ⟨u, h3, h4⟩ := hc.gets hs 0 c hc'
      refine ⟨_, u, hk, loadVar_one ht hd ?_, h4⟩
      obtain ⟨b, o, s⟩ := ad
      simp at hs
      subst hs
      simpa using h3
  · exact h.elim

theorem field_run (hT : TOk P T) {s : TypeId} {m off t : Nat} {bl : Bool} {fs : List (Nat × TypeId × Bool)} {i0 i : TI} (hs : T s = some i0) (hd0 : i0.d = .strct fs) (hm : nth fs m = some (off, t, bl)) (hi : T t = some i)
    {cs : List AV} {v : Value} {K : AV → Prop} (hv : VR X (.agg cs) v) (h : If i.d.agg (K (.agg ((cs.drop off).take i.size))) (optK (nth cs off) fun c => K c)) :
    ∃ c u, K c ∧ (Instr.field s v m).run P X.w = .ok u X.w ∧ VR X c u := by
  obtain ⟨gs, hu, hg⟩ := und_strct (hT s i0 hs) hd0
  simp only [VR] at hv
  obtain ⟨ds, rfl, hl⟩ := hv
  rw [nth_eq] at hm
  have hgm : ∃ g : Field, gs[m]? = some g ∧ g.offset = off ∧ g.type = t := by
    rw [← hg, List.getElem?_map] at hm
    cases hq : gs.toList[m]? with
    | none => rw [hq] at hm; cases hm
    | some g =>
      rw [hq] at hm
      simp only [Option.map_some, Option.some.injEq, Prod.mk.injEq] at hm
      exact ⟨g, by simpa using hq, hm.1, hm.2.1⟩
  obtain ⟨g, h1, h2, h3⟩ := hgm
  have key : ∃ a, K a ∧ (bif i.d.agg then some (AV.agg ((cs.drop off).take i.size)) else nth cs off) = some a := by
    cases hd : i.d.agg with
    | true => simp only [hd, If] at h; exact ⟨_, h, rfl⟩
    | false =>
      simp only [hd, If] at h
      obtain ⟨c, hc, hk⟩ := optK_elim h
      exact ⟨c, hk, hc⟩
  obtain ⟨a, hk, ha⟩ := key
  obtain ⟨u, h4, h5⟩ := part_run (hT t i hi) hl off ha X.w
  refine ⟨a, u, hk, ?_, h5⟩
  simp [Instr.field, run_underlying hu, h1, asAgg, h2, h3, h4]
theorem fieldAt_run (hT : TOk P T) {s : TypeId} {m off t : Nat} {bl : Bool} {fs : List (Nat × TypeId × Bool)} {i0 i : TI} (hs : T s = some i0) (hd0 : i0.d = .strct fs) (hm : nth fs m = some (off, t, bl)) (hi : T t = some i) (hz : Nat.beq i.size 0 = false)
    (a : Addr) (w : World) : (Instr.fieldAt s (.pointer (some a)) m).run P w = .ok (.pointer (some (a.add off))) w := by
  obtain ⟨gs, hu, hg⟩ := und_strct (hT s i0 hs) hd0
  rw [nth_eq] at hm
  have hgm : ∃ g : Field, gs[m]? = some g ∧ g.offset = off ∧ g.type = t := by
    rw [← hg, List.getElem?_map] at hm
    cases hq : gs.toList[m]? with
    | none => rw [hq] at hm; cases hm
    | some g =>
      rw [hq] at hm
      simp only [Option.map_some, Option.some.injEq, Prod.mk.injEq] at hm
      exact ⟨g, by simpa using hq, hm.1, hm.2.1⟩
  obtain ⟨g, h1, h2, h3⟩ := hgm
  have h0 : i.size ≠ 0 := fun he => by rw [he] at hz; cases hz
  simp [Instr.fieldAt, run_underlying hu, h1, Instr.sureAddr, fieldPlace, h3, sizeOf_run (hT t i hi), h0, h2]

theorem indexAddr_run (hT : TOk P T) {t : TypeId} {a ix : AV} {x y : Value} {K : AV → Prop} (h : indexAddrA T t a ix K) (ha : VR X a x) (hix : VR X ix y) :
    ∃ c u, K c ∧ (Instr.indexAt t x y).run P X.w = .ok u X.w ∧ VR X c u := by
  unfold indexAddrA at h
  split at h
  · rename_i ti i ht hi
    obtain ⟨k, rfl⟩ := intOf_VR hi hix
    split at h
    · rename_i e p off len sz hd
      split at h
      · rename_i j hj
        cases hb : Nat.beq j.size sz with
        | false => simp [hb] at h
        | true =>
          simp only [hb, cond_true] at h
          obtain ⟨⟨h0, h1⟩, hk⟩ := h
          have hsz : j.size = sz := Nat.eq_of_beq_eq_true hb
          simp only [VR] at ha
          obtain ⟨b, o, c, cells, e', hφ, rfl, hlc, ho, hh, _⟩ := ha
          have := ho (by omega)
          subst this
          refine ⟨_, .pointer (some ⟨b.block, b.off + (off + i.toNat * sz), none⟩), hk, ?_, by simp only [VR]; exact ⟨b, hφ, rfl⟩⟩
          have hu := und_slice (hT t ti ht) hd
          simp only [Instr.indexAt, Sem.run_bind, asIntOf, Sem.run_pure, Result.andThen_ok, run_underlying hu]
          rw [if_pos (show 0 ≤ i ∧ i < (len : Int) from ⟨h0, h1⟩)]
          simp [sizeOf_run (hT e j hj), hsz, add_spot, Nat.add_assoc]
      · exact h.elim
    · rename_i e len cells hd
      split at h
      · rename_i j hj
        obtain ⟨⟨h0, h1⟩, hk⟩ := h
        simp only [VR] at ha
        obtain ⟨a', c, rfl, hlc, hn, hc⟩ := ha
        have hu := und_slice (hT t ti ht) hd
        obtain ⟨ad, rfl, hs⟩ : ∃ ad : Addr, a' = some ad ∧ ad.spot = none := by
          rcases hn with hn | hn
          · omega
          · exact hn
        refine ⟨_, .pointer (some (ad.add (i.toNat * j.size))), hk, ?_, ?_⟩
        · simp only [Instr.indexAt, Sem.run_bind, asIntOf, Sem.run_pure, Result.andThen_ok, run_underlying hu]
          rw [if_pos (show 0 ≤ i ∧ i < (len : Int) from ⟨h0, h1⟩)]
          simp [sizeOf_run (hT e j hj)]
        · simp only [VR]
          refine ⟨_, rfl, by rw [add_spot _ _ hs], ?_⟩
          have := (VC.drop (i.toNat * j.size) hc).shift hs
          simpa using this
      · exact h.elim
    · rename_i m e p off hd
      split at h
      · rename_i j hj
        obtain ⟨⟨h0, h1⟩, hk⟩ := h
        simp only [VR] at ha
        obtain ⟨b, hφ, rfl⟩ := ha
        refine ⟨_, .pointer (some ⟨b.block, b.off + (off + i.toNat * j.size), none⟩), hk, ?_, by simp only [VR]; exact ⟨b, hφ, rfl⟩⟩
        have hu := und_arr (hT t ti ht) hd
        simp only [Instr.indexAt, Sem.run_bind, asIntOf, Sem.run_pure, Result.andThen_ok, run_underlying hu, Instr.sureAddr]
        rw [if_pos (show 0 ≤ i ∧ i < (m : Int) from ⟨h0, h1⟩)]
        simp [sizeOf_run (hT e j hj), add_spot, Nat.add_assoc]
      · exact h.elim
    · exact h.elim
  · exact h.elim
end
end Go.Proofs.Ytpjjfcgmckpboaa.A
