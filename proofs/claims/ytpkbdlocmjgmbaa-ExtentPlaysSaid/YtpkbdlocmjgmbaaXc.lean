/- extent: maps.Keys, slices.Sorted as the machine tells them. No condition. -/
import Derived.Test.YtpkbdlocmjgmbaaXb
namespace Go.Proofs.Ytpkbdlocmjgmbaa.A
open Go Go.Proofs
set_option linter.unusedVariables false
set_option linter.unusedSimpArgs false
set_option maxRecDepth 100000

def iV (l : List Int) : AV := .view l.length (l.map i64)
/-- A call that leaves what was there as it was, and hands back numbers in a new row. -/
theorem acalls_new {P : Program} {g : FuncId} {args : List AV} {H : Heap} {Q : List Int → Prop} {e : TypeId} (he : ∀ av w, (callFunc g av).run P w = .ok (.enter g av) w)
    (hc : ∀ (X : Ctx) (av : Array Value), HR X H → VL X args av.toList → Calls P g av X.w fun e0 w' => ∃ (v : Value) (l : List Int), e0 = .returned v ∧ Q l ∧ w'.ownsRow X.w.heap.size e 1 v l.length (l.map (Value.int .i64)) ∧ Go.RowKit.Below X.w.heap.size X.w w') :
    ACalls P g args H (fun E G => ∃ l, Q l ∧ E = .ret (iV l) ∧ G = H) := by
  intro X av hr hv
  refine .inl ⟨he _ _, (hc X av hr hv).mono ?_⟩
  rintro e0 w' ⟨v, l, rfl, hQ, ⟨hlen, hrow⟩, hb⟩
  have main : ∀ G : Nat → Prop, (∀ b, G b → X.w.heap.size ≤ b ∧ b < w'.heap.size) → VR ⟨X.φ, fun b => X.F b ∨ G b, w'⟩ (iV l) v →
      ∃ E H' Y, (∃ l, Q l ∧ E = .ret (iV l) ∧ H' = H) ∧ Y.w = w' ∧ EndR Y E (.returned v) ∧ HR Y H' ∧ Ext X H Y H' ∧ (∀ i, i < H.length → Y.φ i = X.φ i) ∧ H.length ≤ H'.length := by
    intro G hG hvr
    have hshape : ∀ (b : Nat) (cells : Array Value) (e : TypeId) (fr : Nat × Nat), X.w.heap[b]? = some (Go.Obj.cells cells e fr) → ∃ cells', w'.heap[b]? = some (Go.Obj.cells cells' e fr) ∧ cells'.size = cells.size := fun b cells e fr h =>
      ⟨cells, (hb.block b (Array.getElem?_eq_some_iff.1 h).1).trans h, rfl⟩
    have hle : Le X ⟨X.φ, fun b => X.F b ∨ G b, w'⟩ := ⟨fun _ _ h => h, fun _ h => .inl h, fun b h => hb.block b (hr.fl b h), hshape⟩
    refine ⟨.ret (iV l), H, ⟨X.φ, fun b => X.F b ∨ G b, w'⟩, ⟨l, hQ, rfl, rfl⟩, rfl, hvr, ⟨?_, ?_, ?_, hr.sep, ?_, ?_⟩, ⟨hb.size, fun b h _ => hb.block b h, hshape, fun b ho => .inl ho, fun _ h => .inl h, ?_, hb.os, hb.tape, hb.output⟩, fun _ _ => rfl, Nat.le_refl _⟩
    · intro i b h
      obtain ⟨h1, h2, h3⟩ := hr.lt i b h
      exact ⟨h1, h2, Nat.lt_of_lt_of_le h3 hb.size⟩
    · intro i cs b hi h
      exact (hr.row i cs b hi h).mono hle (hb.block _ (hr.lt i b h).2.2)
    · intro i es b hi h
      exact (hr.mp i es b hi h).mono hle (hb.block _ (hr.lt i b h).2.2)
    · rintro i b hi h (hF | hF)
      · exact hr.fz i b hi h hF
      · have := (hr.lt i b h).2.2
        have := (hG _ hF).1
        omega
    · rintro b (hF | hF)
      · exact Nat.lt_of_lt_of_le (hr.fl b hF) hb.size
      · exact (hG b hF).2
    · rintro b (hF | hF)
      · exact .inl hF
      · exact .inr (.inr (hG b hF).1)
  rcases hrow with ⟨rfl, h0⟩ | ⟨gb, cap, cur, rfl, hbase, hgb, hcap, _, hsz, htake⟩
  · have : l = [] := List.eq_nil_of_length_eq_zero h0
    subst this
    refine main (fun _ => False) (fun _ h => h.elim) ?_
    simp only [VR, iV]
    exact ⟨none, 0, rfl, Nat.le_refl _, .inl rfl, True.intro⟩
  · refine main (fun b => b = gb) (fun b h => by subst h; exact ⟨hbase, (Array.getElem?_eq_some_iff.1 hgb).1⟩) ?_
    simp only [VR, iV]
    refine ⟨some ⟨gb, 0, none⟩, cap, rfl, hcap, .inr ⟨_, rfl, rfl⟩, ?_⟩
    refine VC.of_get rfl (show X.F gb ∨ gb = gb from Or.inr rfl) fun i c hc => ?_
    rw [List.getElem?_map] at hc
    obtain ⟨x, hx, rfl⟩ := Option.map_eq_some_iff.1 hc
    refine ⟨.int .i64 x, ?_, VR_int.2 rfl⟩
    have h1 : (l.map (Value.int .i64))[i]? = some (.int .i64 x) := by rw [List.getElem?_map, hx]; rfl
    rw [← htake, List.getElem?_take] at h1
    split at h1
    · simp only [World.cell?, hgb]
      simpa using h1
    · cases h1
/-- An own cell, as an object. -/
theorem box_inv {X : Ctx} {b : Addr} {a : AV} (h : MapR X b [(.nilIface, a)]) : b.off = 0 ∧ ∃ v e, X.w.heap[b.block]? = some (Go.Obj.cells #[v] e (0, 0)) ∧ VR X a v := by
  obtain ⟨h0, ob, fs, h1, h2, h3⟩ := h
  refine ⟨h0, ?_⟩
  unfold obE at h2
  split at h2
  · cases h2
    simp only [EntR] at h3
    exact absurd h3.1 (by simp)
  · cases h2
    simp only [EntR] at h3
    exact absurd h3.1 (by simp)
  · rename_i cs e
    split at h2
    · rename_i v hcs
      cases h2
      simp only [EntR] at h3
      have : cs = #[v] := by rw [← hcs]
      subst this
      exact ⟨v, e, h1, h3.2.2.1⟩
    · cases h2
  · cases h2
/-- maps.Keys: the iterator, and its cell. -/
theorem keysF_ok (es : List (Value × AV)) : ACalls Try.prog 30 [.mapr 0] [.mp es] (RetH (.fn (.func 40) [.ptr 1 0]) [.mp es, .mp [(.nilIface, .mapr 0)]]) := by
  intro X av hr hv
  obtain ⟨l⟩ := av
  match l, hv with
  | [x], hv =>
    simp only [VL, VR, and_true] at hv
    obtain ⟨b, hb, rfl⟩ := hv
    have hk := AnyZI.keys_in Try.keysA Go.Fence.wide 6 trivial rfl (some b.block) X.w
    have hk2 : CallsIn Fence.wide 6 Try.prog 30 #[Value.map (some b.block)] X.w fun e w' => e = .returned (.func (.func 40) #[] #[.pointer (some ⟨X.w.heap.size, 0, none⟩)]) ∧ w' = X.w.alloc (.cells #[.map (some b.block)] (Try.keysA_ren.t 23)) := hk
    clear hk
    generalize Try.keysA_ren.t 23 = et at hk2
    refine .inl ⟨enters_of Try.func30 (by kernel_rfl) rfl _ _, ((callsIn_wide (n := 6)).1 hk2).mono ?_⟩
    rintro e w' ⟨rfl, rfl⟩
    have hn := NewAt.push hr
    have hst := Step.new hr 1 (Go.Obj.cells #[.map (some b.block)] et) (.mp [(.nilIface, .mapr 0)]) hn.φ (hn.len _) (hn.at_ _) (hn.old _) (fun cs he => by cases he) (fun es2 he => by
      cases he
      refine ⟨rfl, _, _, heap_alloc_at _ _, rfl, rfl, rfl, ?_, True.intro⟩
      have hle := Le.new hr 1 (Go.Obj.cells #[.map (some b.block)] et) hn.φ
      refine VR.mono hle _ _ ?_
      simp only [VR]
      exact ⟨b, hb, rfl⟩)
    refine ⟨_, _, _, ⟨rfl, rfl⟩, rfl, ?_, hst.hr, hst.ext, fun i hi => by
      have : i ≠ 1 := by simp at hi; omega
      simp [Ctx.new, this], by simp⟩
    simp only [EndR, VR]
    refine ⟨_, rfl, ?_⟩
    simp only [VL, and_true, VR]
    exact ⟨⟨X.w.heap.size, 0, none⟩, by simp [Ctx.new], rfl⟩
theorem ent_keys {X : Ctx} : ∀ {L : List En} {fs : List MapEntry}, EntR X (L.map ent) (fs.map tupE) → fs.map (·.key) = L.map (fun e => Value.int .i64 e.1) ∧ fs.map (·.born) = L.map (·.2.2)
  | [], [], _ => ⟨rfl, rfl⟩
  | [], _ :: _, h => by simp [EntR] at h
  | _ :: _, [], h => by simp [EntR] at h
  | e :: L, f :: fs, h => by
    simp only [List.map_cons, ent, EntR] at h
    obtain ⟨h1, h2⟩ := ent_keys h.2.2.2
    obtain ⟨h3, _⟩ := tup2_VR h.2.2.1
    have h4 : f.key = Value.int .i64 e.1 := h.1
    exact ⟨by rw [List.map_cons, List.map_cons, h1, h4], by rw [List.map_cons, List.map_cons, h2]; congr 1; omega⟩
def keyI : Value → Int
  | .int _ n => n
  | _ => 0
/-- The keys, the lesser first. -/
def ksE (L : List En) : List Int := (L.map (·.1)).mergeSort (fun x y => decide (x ≤ y))
theorem sortedF_ok (m : Mp) (hok : m.ok) (hlen : m.L.length ≤ 1000) (hwf : ∀ e ∈ m.L, (Lit.int .i64 e.1).wf = true) :
    ACalls Try.prog 29 [.fn (.func 40) [.ptr 1 0]] [.mp m.E, .mp [(.nilIface, .mapr 0)]] (RetH (iV (ksE m.L)) [.mp m.E, .mp [(.nilIface, .mapr 0)]]) := by
  refine (acalls_new (Q := fun l => l = ksE m.L) (e := 3) (enters_of Try.func29 (by kernel_rfl) rfl) ?_).mono (fun E G ⟨l, hl, hE, hG⟩ => by subst hl; exact ⟨hE, hG⟩)
  intro X av hr hv
  obtain ⟨l⟩ := av
  match l, hv with
  | [x], hv =>
    simp only [VL, VR, and_true] at hv
    obtain ⟨caps, rfl, hcaps⟩ := hv
    obtain ⟨caps⟩ := caps
    match caps, hcaps with
    | [p], hcaps =>
      simp only [VL, VR, and_true] at hcaps
      obtain ⟨b1, hb1, rfl⟩ := hcaps
      obtain ⟨h0, v, et, h1, h2⟩ := box_inv (hr.mp 1 _ b1 rfl hb1)
      simp only [VR] at h2
      obtain ⟨b0, hb0, rfl⟩ := h2
      obtain ⟨es', clock, h3, h4, h5⟩ := (hr.mp 0 _ b0 rfl hb0).inv
      obtain ⟨k1, k2⟩ := ent_keys h5
      have h4' := VR_int.1 h4
      injection h4' with _ h4'
      have hcl : clock = m.c := by omega
      have hel : es'.size = m.L.length := by
        have := congrArg List.length k2
        simpa using this
      have hku : Try.prog.underlying 3 = some (.int .i64) := by kernel_rfl
      have hkey : ∀ x ∈ es'.toList, ∃ e ∈ m.L, x.key = .int .i64 e.1 := fun x hx => by
        have : x.key ∈ es'.toList.map (·.key) := List.mem_map_of_mem hx
        rw [k1] at this
        obtain ⟨e, he, h⟩ := List.mem_map.1 this
        exact ⟨e, he, h.symm⟩
      have hko : ∀ x ∈ es'.toList, ∃ n, x.key = .int .i64 n ∧ Go.keyOf Try.prog 3 x.key = some (.int .i64 n) := fun x hx => by
        obtain ⟨e, he, hk⟩ := hkey x hx
        refine ⟨e.1, hk, ?_⟩
        rw [hk]
        simp [Go.keyOf, hku, mapKey, hwf e he]
      have hfit : Go.WideElems.Fit (H := Unit) Try.prog 3 (fun _ => some (.lit (.bool true), [])) es' clock := by
        refine ⟨by rw [hel]; unfold maxLen; omega, ⟨fun x hx => ?_, ?_, ?_⟩, fun x hx => ?_⟩
        · have : x.born ∈ es'.toList.map (·.born) := List.mem_map_of_mem hx
          rw [k2] at this
          obtain ⟨e, he, h⟩ := List.mem_map.1 this
          rw [← h, hcl]
          exact hok.lt e he
        · rw [k2]
          exact hok.st
        · rw [k1]
          have := hok.ky
          rw [show (m.L.map fun e => Value.int .i64 e.1) = (m.L.map (·.1)).map (Value.int .i64) by rw [List.map_map]; rfl]
          exact List.Pairwise.map _ (fun a b hab h => hab (by injection h)) this
        · obtain ⟨n, _, hn⟩ := hko x hx
          simp [Go.WideElems.rd, hn]
      have hown : X.w.ownsMap (H := Unit) Try.prog 3 (fun _ => some (.lit (.bool true), [])) b0.block es'.size _ := ⟨es', clock, h3, hfit, Nat.le_refl _, rfl⟩
      have hperm : (intKeys (DataW.map ((es'.toList.map (Go.WideElems.rg (H := Unit) Try.prog 3 (fun _ => some (.lit (.bool true), [])))).foldr DataW.insert []))).Perm (m.L.map (·.1)) := by
        unfold intKeys
        refine ((Go.WideShapes.sorted_perm _).map _).trans ?_
        rw [List.map_map]
        have : es'.toList.map ((fun p => Go.intOf p.1) ∘ Go.WideElems.rg (H := Unit) Try.prog 3 (fun _ => some (.lit (.bool true), []))) = es'.toList.map (fun x => keyI x.key) := by
          refine List.map_congr_left fun x hx => ?_
          obtain ⟨n, h6, hn⟩ := hko x hx
          rw [h6] at hn
          simp [Go.WideElems.rg, Go.WideElems.rd, hn, h6, Go.intOf, keyI]
        have h7 : (es'.toList.map fun x => keyI x.key) = (es'.toList.map (·.key)).map keyI := by rw [List.map_map]; rfl
        rw [this, h7, k1, List.map_map]
        exact .refl _
      have hsz : Maps.size (DataW.map ((es'.toList.map (Go.WideElems.rg (H := Unit) Try.prog 3 (fun _ => some (.lit (.bool true), [])))).foldr DataW.insert [])) = m.L.length := by
        rw [Maps.size_eq, (Go.WideShapes.sorted_perm _).length_eq, List.length_map]
        exact hel
      have hc : X.w.cell? ⟨b1.block, 0, none⟩ = some (.map (some b0.block)) := by simp [World.cell?, h1]
      have hlt : b1.block < X.w.heap.size := (hr.lt 1 b1 hb1).2.2
      have key := Try.sorted_calls b1.block b0.block _ _ _ X.w hlt hc hown (by rw [hsz]; unfold maxLen; omega) (by rw [hsz]; omega)
      rw [show b1.off + 0 = 0 by omega]
      refine key.mono ?_
      rintro e w' ⟨v, ss, rfl, hp, hrow, _, hb⟩
      have hs : ss.mergeSort (fun x y => decide (x ≤ y)) = ksE m.L := Go.mergeSort_of_perm_i (hp.trans hperm)
      rw [hs] at hrow
      have hl : ss.length = (ksE m.L).length := by rw [← hs, List.length_mergeSort]
      rw [hl] at hrow
      exact ⟨v, ksE m.L, rfl, rfl, hrow, hb⟩
end Go.Proofs.Ytpkbdlocmjgmbaa.A
