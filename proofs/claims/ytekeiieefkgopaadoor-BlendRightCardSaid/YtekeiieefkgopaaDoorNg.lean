/- align.Regions. -/
import Derived.Test.YtekeiieefkgopaaDoorNf
import Derived.Shelf.Abstract
import Derived.Shelf.RegionOpen
import Derived.RegionIn
import Derived.Laws.EntriesVeiled
namespace Go.Proofs.YtekeiieefkgopaaDoor.Ng
open Go.RowKit Go.Shelf Go.Proofs.YtekeiieefkgopaaDoor.Aa Go.Proofs.YtekeiieefkgopaaDoor.Vw Go.Proofs.YtekeiieefkgopaaDoor.Ma Go.Proofs.YtekeiieefkgopaaDoor.Mr Go.Proofs.YtekeiieefkgopaaDoor.Mb Go.Proofs.YtekeiieefkgopaaDoor.Mc Go.Proofs.YtekeiieefkgopaaDoor.Mg Go.Proofs.YtekeiieefkgopaaDoor.Mi Go.Proofs.YtekeiieefkgopaaDoor.Mj Go.Proofs.YtekeiieefkgopaaDoor.Mt Go.Proofs.YtekeiieefkgopaaDoor.Na Go.Proofs.YtekeiieefkgopaaDoor.Nb Go.Proofs.YtekeiieefkgopaaDoor.Nc Go.Proofs.YtekeiieefkgopaaDoor.Nd Go.Proofs.YtekeiieefkgopaaDoor.Ne Go.Proofs.YtekeiieefkgopaaDoor.Nf
attribute [local go_sem] Oper.semAt_some
set_option linter.unusedVariables false
set_option linter.unusedSimpArgs false

theorem eo_slice {w : World} {B : Nat} {v : Value} {es : List EditP} (h : EO w B v es) : ∃ A c, v = .slice A es.length c ∧ True := by
  rcases h with ⟨rfl, rfl⟩ | ⟨g, cap, svs, rfl, _⟩
  · exact ⟨_, _, rfl, trivial⟩
  · exact ⟨_, _, rfl, trivial⟩

theorem allocs_get (w : World) (os : List Obj) : ∀ (i : Nat) (o : Obj), os[i]? = some o → (os.foldl World.alloc w).heap[w.heap.size + i]? = some o := by
  induction os generalizing w with
  | nil => intro i o h; simp at h
  | cons x r ih =>
    intro i o h
    cases i with
    | zero =>
      have e : x = o := by simpa using h
      subst e
      rw [List.foldl_cons]
      have hk : ∀ (r : List Obj) (v : World), v.heap[w.heap.size]? = some x → (r.foldl World.alloc v).heap[w.heap.size]? = some x := by
        intro r
        induction r with
        | nil => intro v hv; exact hv
        | cons y r ih => intro v hv; exact ih _ (((Ch.refl no v).alloc y).blk hv (no_not _))
      exact hk r _ (al1 w x)
    | succ i =>
      have := ih (w.alloc x) i o (by simpa using h)
      rw [List.foldl_cons]
      rw [show (w.alloc x).heap.size = w.heap.size + 1 from by simp] at this
      rw [show w.heap.size + (i + 1) = w.heap.size + 1 + i from by omega]
      exact this

set_option maxRecDepth 100000 in
set_option maxHeartbeats 8000000 in
theorem regions_any (Ao Aa Ab : Option Addr) (co ca cb : Nat) (o a b : List ByteArray) (w : World) (ho : El.str.Row w Ao co o) (ha : El.str.Row w Aa ca a) (hb : El.str.Row w Ab cb b)
    (hlo : o.length ≤ 1000000) (hla : a.length ≤ 1000000) (hlb : b.length ≤ 1000000) (hsl : SmallE (diffOf o a)) (hsr : SmallE (diffOf o b))
    (hgood : ∀ pre x r, clusOf (diffOf o a) (diffOf o b) = pre ++ x :: r → GoodS a b (runS a b pre) x)
    (hend : (runS a b (clusOf (diffOf o a) (diffOf o b))).at_ ≤ 1000000 ∧ smallR (runS a b (clusOf (diffOf o a) (diffOf o b))).last ∧ (runS a b (clusOf (diffOf o a) (diffOf o b))).out.length ≤ 900000000) :
    Calls Tryd.prog 109 #[.slice Ao o.length co, .slice Aa a.length ca, .slice Ab b.length cb] w fun e w' => ∃ v, e = .returned v ∧ OwnR w' w.heap.size v (regionsOf o a b) ∧ Ch no w w' := by
  have HO := Lib.hid ho; have HA := Lib.hid ha; have HB := Lib.hid hb; have HG := Lib.hid hgood; have HE := Lib.hid hend; have HSL := Lib.hid hsl; have HSR := Lib.hid hsr
  have hoc := ho.le; have hac := ha.le; have hbc := hb.le
  clear ho ha hb hgood hend hsl hsr
  refine (callsIn_wide (n := 9)).1 (callsIn_of_wp_marks Tryd.func109 rfl trivial ?_ rfl)
  simp only [Tryd.ntmps109, List.size_toArray, List.length_cons, List.length_nil, Nat.reduceAdd, Nat.reduceSub, Array.replicate_succ, Array.replicate_zero, List.push_toArray, List.append_toArray, List.nil_append, List.cons_append]
  refine wpIn_wide.2 ?_
  go_upto_region 5 with (fail)
  obtain ⟨n0, hn0⟩ : ∃ n0, w.heap.size = n0 := ⟨_, rfl⟩
  rw [hn0]
  obtain ⟨g5, h5⟩ : ∃ g, n0 + 1 = g := ⟨_, rfl⟩
  rw [h5]
  obtain ⟨g7, h7⟩ : ∃ g, g5 + 1 = g := ⟨_, rfl⟩
  rw [h7]
  obtain ⟨g8, h8⟩ : ∃ g, g7 + 1 = g := ⟨_, rfl⟩
  rw [h8]
  obtain ⟨g9, h9⟩ : ∃ g, g8 + 1 = g := ⟨_, rfl⟩
  rw [h9]
  obtain ⟨g10, h10⟩ : ∃ g, g9 + 1 = g := ⟨_, rfl⟩
  rw [h10]
  have hall := allocs_get w [.cells #[.slice Aa a.length ca] 25, .cells #[.slice Ab b.length cb] 25, .cells #[.slice none 0 0] 139, .cells #[.int .i64 0, .int .i64 0, .int .i64 0, .int .i64 0, .int .i64 0, .int .i64 0, .int .i64 0] 144,
    .cells #[.func (.func 125) #[] #[.pointer (some ⟨g8, 0, none⟩), .pointer (some ⟨g7, 0, none⟩)]] 156, .cells #[.int .i64 0] 3]
  simp only [List.foldl_cons, List.foldl_nil, hn0] at hall
  have hch0 : ∀ o1 o2 o3 o4 o5 o6, Ch no w ((((((w.alloc o1).alloc o2).alloc o3).alloc o4).alloc o5).alloc o6) := fun _ _ _ _ _ _ => ((((((Ch.refl no w).alloc _).alloc _).alloc _).alloc _).alloc _).alloc _
  refine wp_world (fun X => Hid (∀ B, RI w X B n0 g5 g7 g8 g9 g10 Aa Ab ca cb a b (.slice none 0 0) Nf.start)) ?_ ?_
  · exact Lib.hid fun B => ⟨hch0 _ _ _ _ _ _, hall 0 _ rfl, by have := hall 1 _ rfl; rwa [h5] at this, by have := hall 2 _ rfl; rwa [show n0 + 2 = g7 from by omega] at this, OwnR.nil _ _, by have := hall 3 _ rfl; rwa [show n0 + 3 = g8 from by omega] at this, by have := hall 4 _ rfl; rwa [show n0 + 4 = g9 from by omega] at this, by have := hall 5 _ rfl; rwa [show n0 + 5 = g10 from by omega] at this⟩
  clear hall hch0
  have HGS : Hid (w.heap.size = n0 ∧ g5 = n0 + 1 ∧ g7 = n0 + 2 ∧ g8 = n0 + 3 ∧ g9 = n0 + 4 ∧ g10 = n0 + 5) := Lib.hid ⟨hn0, by omega, by omega, by omega, by omega, by omega⟩
  clear h5 h7 h8 h9 h10 hn0
  intro W0 HC'
  have HC := Lib.hid (HC'.out 0)
  have c4 := (bCell HC.out.ba 0).trans rfl
  have c5 := (bCell HC.out.bb 0).trans rfl
-- <regs5
  refine wp_region_tail (G := gds [Gd.is ?r5v0, Gd.is ?r5v1, ⟨fun v X => EO X W0.heap.size v (diffOf o a), fun v A B h hc => h.ch hc (fun _ _ => no_not _)⟩, Gd.is ?r5v3, Gd.is ?r5v4, ⟨fun v X => EO X W0.heap.size v (diffOf o b), fun v A B h hc => h.ch hc (fun _ _ => no_not _)⟩, ⟨fun v X => ∃ A5 c5 A2 c2, v = .agg #[.slice A2 (diffOf o a).length c2, .slice A5 (diffOf o b).length c5] ∧ EO X W0.heap.size (.slice A2 (diffOf o a).length c2) (diffOf o a) ∧ EO X W0.heap.size (.slice A5 (diffOf o b).length c5) (diffOf o b), fun v A B h hc => by obtain ⟨A5, c5, A2, c2, h1, h2, h3⟩ := h; exact ⟨A5, c5, A2, c2, h1, h2.ch hc (fun _ _ => no_not _), h3.ch hc (fun _ _ => no_not _)⟩⟩]) 7 (by kernel_rfl) (by kernel_rfl) rfl (by kernel_rfl) gds_st ?obl5 ?fin5
  case obl5 =>
    simp only [Obls, and_true, List.take_succ_cons, List.take_zero]
    refine ⟨?_, ?_, ?_, ?_, ?_, ?_, ?_⟩
    · intro vs W hW hd
      simp only [fill, List.setIfInBounds_toArray, List.set_cons_zero, List.set_cons_succ]
      clear hd
      go_wp2_with (fail)
      refine ⟨rfl, rfl, Ch.refl _ _, gds_is rfl ?_⟩
      (conv => lhs; whnf)
    · intro vs W hW hd
      simp only [fill, List.setIfInBounds_toArray, List.set_cons_zero, List.set_cons_succ]
      clear hd
      have hWW := (Ch.refl no W0).drew.same hW
      have hca := cell_ch hWW c4
      have hcb := cell_ch hWW c5
      go_wp2_with (fail)
      refine ⟨rfl, rfl, Ch.refl _ _, gds_is rfl ?_⟩
      (conv => lhs; whnf)
    · intro vs W hW hd
      simp only [fill, List.setIfInBounds_toArray, List.set_cons_zero, List.set_cons_succ]
      have d0 := gds_at rfl (hd ⟨0, .data⟩ (by simp) rfl)
      have d1 := gds_at rfl (hd ⟨1, .data⟩ (by simp) rfl)
      rw [d0, d1]
      clear hd d0 d1
      have hWW := (Ch.refl no W0).drew.same hW
      have hca := cell_ch hWW c4
      have hcb := cell_ch hWW c5
      go_wp2_with (refine (diff_any Ao Aa co ca o a W (HO.out.ch (HC.out.ch.same hWW)) (HA.out.ch (HC.out.ch.same hWW)) hlo hla).mono ?_; rintro e w' ⟨v9, rfl, heo, hch⟩)
      refine ⟨rfl, rfl, hch.mono (fun _ h => h.elim), gds_mk rfl ?_⟩
      exact heo.less hW.size
    · intro vs W hW hd
      simp only [fill, List.setIfInBounds_toArray, List.set_cons_zero, List.set_cons_succ]
      clear hd
      go_wp2_with (fail)
      refine ⟨rfl, rfl, Ch.refl _ _, gds_is rfl ?_⟩
      (conv => lhs; whnf)
    · intro vs W hW hd
      simp only [fill, List.setIfInBounds_toArray, List.set_cons_zero, List.set_cons_succ]
      clear hd
      have hWW := (Ch.refl no W0).drew.same hW
      have hca := cell_ch hWW c4
      have hcb := cell_ch hWW c5
      go_wp2_with (fail)
      refine ⟨rfl, rfl, Ch.refl _ _, gds_is rfl ?_⟩
      (conv => lhs; whnf)
    · intro vs W hW hd
      simp only [fill, List.setIfInBounds_toArray, List.set_cons_zero, List.set_cons_succ]
      have d3 := gds_at rfl (hd ⟨3, .data⟩ (by simp) rfl)
      have d4 := gds_at rfl (hd ⟨4, .data⟩ (by simp) rfl)
      rw [d3, d4]
      clear hd d3 d4
      have hWW := (Ch.refl no W0).drew.same hW
      have hca := cell_ch hWW c4
      have hcb := cell_ch hWW c5
      go_wp2_with (refine (diff_any Ao Ab co cb o b W (HO.out.ch (HC.out.ch.same hWW)) (HB.out.ch (HC.out.ch.same hWW)) hlo hlb).mono ?_; rintro e w' ⟨v9, rfl, heo, hch⟩)
      refine ⟨rfl, rfl, hch.mono (fun _ h => h.elim), gds_mk rfl ?_⟩
      exact heo.less hW.size
    · intro vs W hW hd
      simp only [fill, List.setIfInBounds_toArray, List.set_cons_zero, List.set_cons_succ]
      have d2 := gds_get rfl (hd ⟨2, .data⟩ (by simp) rfl)
      obtain ⟨A2, c2, e2, _⟩ := eo_slice d2
      rw [e2]
      have d5 := gds_get rfl (hd ⟨5, .data⟩ (by simp) rfl)
      obtain ⟨A5, c5', e5, _⟩ := eo_slice d5
      rw [e5]
      clear hd
      have D2 := Lib.hid d2; have D5 := Lib.hid d5; have E2 := Lib.hid e2; have E5 := Lib.hid e5; clear d2 d5 e2 e5
      go_wp2_with (fail)
      refine ⟨rfl, rfl, Ch.refl _ _, gds_mk rfl ⟨A5, c5', A2, c2, ?_, by rw [← E2.out]; exact D2.out, by rw [← E5.out]; exact D5.out⟩⟩
      (conv => lhs; whnf)
  case fin5 =>
    intro vs W hW hd
    simp only [fill, List.setIfInBounds_toArray, List.set_cons_zero, List.set_cons_succ, List.take_succ_cons, List.take_zero, List.drop_succ_cons, List.drop_zero]
    have d0 := gds_at rfl (hd 0 (by omega))
    have d1 := gds_at rfl (hd 1 (by omega))
    have d2 := gds_get rfl (hd 2 (by omega))
    have d3 := gds_at rfl (hd 3 (by omega))
    have d4 := gds_at rfl (hd 4 (by omega))
    have d5 := gds_get rfl (hd 5 (by omega))
    have d6 := gds_get rfl (hd 6 (by omega))
    rw [d0, d1, d3, d4]
    clear hd d0 d1 d3 d4
-- regs5>
    obtain ⟨A5, c5', A2, c2, e6, h2, h5⟩ := d6
    rw [e6]
    have H2 := Lib.hid h2; have H5 := Lib.hid h5; have HW := Lib.hid hW
    clear h2 h5 e6 d2 d5 hW c4 c5
    go_wp2_with (refine (clusters_of _ _ W ⟨_, _, _, rfl⟩ ⟨_, _, _, rfl⟩).mono ?_; rintro e w' ⟨rfl, hbk, hch⟩; have HBK := Lib.hid hbk; have HCH := Lib.hid hch; clear hbk hch)
    obtain ⟨bs, hbs⟩ : ∃ bs, W.heap.size = bs := ⟨_, rfl⟩
    obtain ⟨nL, hnL⟩ : ∃ nL, w'.heap.size = nL := ⟨_, rfl⟩
    rw [hbs] at HBK ⊢
    have hgs := HGS.out
    have hz0 : n0 + 5 < W0.heap.size := by have := blk_lt' HC.out.b10; omega
    have hz1 : W0.heap.size ≤ bs := by rw [← hbs]; exact HW.out.size
    have hz2 : bs < nL := by rw [← hnL]; exact blk_lt' HBK.out
    have HBS := Lib.hid hbs; have HNL := Lib.hid hnL
    clear hbs hnL hgs
    have hRI : RI w w' (nL + 2) n0 g5 g7 g8 g9 g10 Aa Ab ca cb a b (.slice none 0 0) Nf.start :=
      ((HC'.out (nL + 2)).keep (((Ch.refl no W0).drew.same HW.out).same HCH.out) (fun _ h => h.elim) (no_not _) (no_not _) (no_not _) (no_not _) (no_not _) (no_not _) (fun _ _ => no_not _))
    have HRI := Lib.hid hRI
    clear hRI
    refine (wpIn_wide (n := 9)).1 ?_
    refine wpIn_range rfl (by omega) (gf := 143) (lb := #[.pointer (some ⟨bs, 0, none⟩)]) rfl trivial (Go.Proofs.enters_of Tryd.func143 (by kernel_rfl) rfl)
      (encs := fun c : Clu => #[c.val]) (T := one bs) (V := fun k => k = g7 ∨ k = g8 ∨ k = g10 ∨ nL + 2 ≤ k) (xs := clusOf (diffOf o a) (diffOf o b)) ?seq ?hT ?hV (fun _ => rfl)
      (fun pre X => ∃ v, Hid (RI w X (nL + 2) n0 g5 g7 g8 g9 g10 Aa Ab ca cb a b v (runS a b pre))) ?hI ⟨_, HRI⟩
      (fun x a' X => ∃ gc, nL + 2 ≤ gc ∧ Hid (X.heap[gc]? = some (.cells x.cells 165 (0, 0))) ∧ a' = { tmps := #[.slice Ao o.length co, .slice Aa a.length ca, .slice Ab b.length cb, undef, .pointer (some ⟨n0, 0, none⟩), .pointer (some ⟨g5, 0, none⟩), .slice none 0 0, .pointer (some ⟨g7, 0, none⟩), .pointer (some ⟨g8, 0, none⟩), .pointer (some ⟨g9, 0, none⟩), .pointer (some ⟨g10, 0, none⟩), .pointer (some ⟨gc, 0, none⟩), undef, .agg #[.int .i64 0, .int .i64 0, .int .i64 0, .int .i64 0, .int .i64 0, .int .i64 0, .int .i64 0], .func (.func 125) #[] #[.pointer (some ⟨g8, 0, none⟩), .pointer (some ⟨g7, 0, none⟩)], .slice Ao o.length co, .slice Aa a.length ca, vs 2, .slice Ao o.length co, .slice Ab b.length cb, vs 5, .agg #[.slice A2 (diffOf o a).length c2, .slice A5 (diffOf o b).length c5'], .func (.func 143) #[] #[.pointer (some ⟨bs, 0, none⟩)], x.val, undef, undef, undef, undef, undef, undef, undef, undef, undef, undef, undef, undef, undef, undef, undef, undef, undef, undef, undef, undef, undef, undef, undef, undef, undef, undef, undef, undef, undef, undef, undef, undef, undef, undef, undef, undef, undef, undef, undef, undef, undef, undef, undef, undef, undef, undef, undef, undef, undef, undef, undef], defers := [] }) ?hAx ?assign ?body ?done
    case seq =>
      have hF : ∀ k, W0.heap.size ≤ k → k < W.heap.size → (W0.heap.size ≤ k ∧ k < bs) := fun k h1 h2 => ⟨h1, by have := HBS.out; omega⟩
      have hgs := HGS.out
      have hnl := HNL.out
      exact clus_iter _ bs _ (fun k => W0.heap.size ≤ k ∧ k < bs) (diffOf o a) (diffOf o b) _ _ w' HBK.out ((ES.of_eo H2.out hF (fun _ _ => trivial)).keep HCH.out (fun _ _ => no_not _)) ((ES.of_eo H5.out hF (fun _ _ => trivial)).keep HCH.out (fun _ _ => no_not _)) HSL.out HSR.out
        (by rintro ((h | h | h | h) | h | h) <;> omega) (by rintro k ⟨h1, h2⟩ ((h | h | h | h) | h | h) <;> omega) (fun h => by omega) (fun k h => by omega)
    case hT =>
      have hnl := HNL.out
      intro k h
      have : k = bs := h
      omega
    case hV =>
      have hnl := HNL.out
      have hgs := HGS.out
      rintro k (h | h | h | h) <;> omega
    case hI =>
      have hnl := HNL.out
      have hgs := HGS.out
      rintro pre A B ⟨v, HI⟩ hc
      refine ⟨v, Lib.hid (HI.out.keep hc ?_ ?_ ?_ ?_ ?_ ?_ ?_ ?_)⟩
      · rintro k (h | h | h)
        · have : k = bs := h
          omega
        · omega
        · omega
      all_goals try (rintro (h | h | h) <;> first | (have h' : _ = bs := h; omega) | omega)
      intro k hk
      have := own_ge HI.out.own k hk
      rintro (h | h | h)
      · have : k = bs := h
        omega
      · omega
      · omega
    case hAx =>
      rintro x a' A B ⟨gc, h1, h2, h3⟩ hc
      have hnl := HNL.out
      exact ⟨gc, h1, Lib.hid (hc.blk h2.out (fun h => by have h' : gc = w'.heap.size + 1 := h; omega)), h3⟩
    case assign =>
      intro l pre x X K hX hI hK
      gi_wp2_with fail
      obtain ⟨v, HI⟩ := hI
      exact hK _ _ ((Ch.refl _ X).alloc _) ⟨v, Lib.hid (HI.out.keep ((Ch.refl no X).alloc _) (fun _ h => h.elim) (no_not _) (no_not _) (no_not _) (no_not _) (no_not _) (no_not _) (fun _ _ => no_not _))⟩ ⟨X.heap.size, by have := HNL.out; omega, Lib.hid (al1 X _), rfl⟩
    case body =>
      rintro l pre x a' X hX ⟨v, HI⟩ ⟨gc, hgc, HGC, rfl⟩ ⟨r, hr⟩
      have GS := Lib.hid (HG.out pre x r hr)
      clear hr
      have HBX : Hid (Bx w (nL + 2) n0 g5 g7 g8 g9 g10) := by
        have hgs := HGS.out
        exact Lib.hid ⟨hgs.1, hgs.2.1, hgs.2.2.1, hgs.2.2.2.1, hgs.2.2.2.2.1, hgs.2.2.2.2.2, by omega⟩
      have HZ : Hid (nL + 2 ≤ X.heap.size) := Lib.hid (by have := HNL.out; omega)
      have hone : 1 ≤ 9 - 1 - 1 := by omega
      have hft := GS.out.ft
      have htb := GS.out.tb
      have hat := GS.out.at_
      have hcc := fun i => bCell HGC.out i
      have hc10 := (bCell HI.out.b10 0).trans rfl
      by_cases hlt : (runS a b pre).at_ < x.from_
      · have hlt' : ((runS a b pre).at_ : Int) < (x.from_ : Int) := by omega
        have hf9 := (bCell HI.out.b9 0).trans rfl
        gi_wp2_with fail
        refine ⟨trivial, ?_⟩
        gi_at_call 125
        refine (CallsIn.inRound l (callsIn_wide.2 (add_of (runS a b pre).last ((x.from_ : Int) - (runS a b pre).at_) 0 0 g8 g7 (nL + 2) v (runS a b pre).out _ GS.out.sm (by omega) (by omega) (by omega) HI.out.b8 HI.out.b7 HI.out.own (by have := HBX.out; unfold Bx at this; omega) (by have := HBX.out; unfold Bx at this; omega) (by have := HBX.out; unfold Bx at this; omega) HZ.out (by have := GS.out.ln; unfold headS at this; rw [if_pos hlt] at this; simp [gapS] at this; omega)))).mono ?_
        rintro e Y0 ⟨g0, cap0, rfl, h8, h7, how, hch⟩
        obtain ⟨vh, hvh⟩ : ∃ v, v = Value.slice (some ⟨g0, 0, none⟩) ((runS a b pre).out.length + 1) cap0 := ⟨_, rfl⟩
        rw [← hvh] at h7 how
        have HIh : Hid (RI w Y0 (nL + 2) n0 g5 g7 g8 g9 g10 Aa Ab ca cb a b vh (headS (runS a b pre) x)) := Lib.hid (by unfold headS; rw [if_pos hlt]; exact HI.out.add HBX.out h8 h7 how hch)
        have hvo0 := Lib.hid (fun k (hk : v.ownBlock = some k) => own_ge HI.out.own k hk)
        have HCV : Hid (Ch (fun k => k = g7 ∨ k = g8 ∨ k = g10 ∨ nL + 2 ≤ k) X Y0) := Lib.hid (hch.mono (fun k hk => by
          rcases hk with h | h | h
          · exact .inr (.inl h)
          · exact .inl h
          · exact .inr (.inr (.inr (hvo0.out k h)))))
        have HGO : Hid (∀ (v : Value) (rs : List Reg) {Y : World}, OwnR Y (nL + 2) v rs → Y.heap[gc]? = some (.cells x.cells 165 (0, 0)) → v.ownBlock ≠ some gc) := Lib.hid (fun v rs Y h hb => own_type h hb (by decide))
        have HGCy : Hid (Y0.heap[gc]? = some (.cells x.cells 165 (0, 0))) := Lib.hid (hch.blk HGC.out (by
          have := HBX.out; unfold Bx at this
          rintro (h | h | h)
          · omega
          · omega
          · exact HGO.out v (runS a b pre).out HI.out.own HGC.out h))
        have HZy : Hid (nL + 2 ≤ Y0.heap.size) := Lib.hid (Nat.le_trans HZ.out hch.size)
        clear h8 h7 how hch hcc hc10 hf9 hvh hlt hlt'
        have hcc := fun i => bCell HGCy.out i
        have hf9 := (bCell HIh.out.b9 0).trans rfl
        gi_wp2_with fail
        refine ⟨trivial, ?_⟩
        gi_at_call 125
        refine (CallsIn.inRound l (callsIn_wide.2 (add_of (headS (runS a b pre) x).last ((x.to_ : Int) - x.from_) x.m0 x.m1 g8 g7 (nL + 2) vh (headS (runS a b pre) x).out _ GS.out.hm (by omega) GS.out.m0 GS.out.m1 HIh.out.b8 HIh.out.b7 HIh.out.own (by have := HBX.out; unfold Bx at this; omega) (by have := HBX.out; unfold Bx at this; omega) (by have := HBX.out; unfold Bx at this; omega) HZy.out (by have := GS.out.ln; omega)))).mono ?_
        rintro e Y ⟨g, cap, rfl, h8, h7, how, hch⟩
        have HI2 := Lib.hid (HIh.out.add HBX.out h8 h7 how hch)
        have HCH := Lib.hid hch
        have HOW := Lib.hid how
        have hvo := Lib.hid (fun k (hk : vh.ownBlock = some k) => own_ge HIh.out.own k hk)
        have HCV2 : Hid (Ch (fun k => k = g7 ∨ k = g8 ∨ k = g10 ∨ nL + 2 ≤ k) X Y) := Lib.hid (HCV.out.same (hch.mono (fun k hk => by
          rcases hk with h | h | h
          · exact .inr (.inl h)
          · exact .inl h
          · exact .inr (.inr (.inr (hvo.out k h))))))
        have HGC2 : Hid (Y.heap[gc]? = some (.cells x.cells 165 (0, 0))) := Lib.hid (hch.blk HGCy.out (by
          have := HBX.out; unfold Bx at this
          rintro (h | h | h)
          · omega
          · omega
          · exact HGO.out vh (headS (runS a b pre) x).out HIh.out.own HGCy.out h))
        clear h8 h7 how hch hcc hf9
        obtain ⟨r9, hr9⟩ : ∃ r, nextR (headS (runS a b pre) x).last ((x.to_ : Int) - x.from_) x.m0 x.m1 = r := ⟨_, rfl⟩
        have ha0 := GS.out.a0
        have ha1 := GS.out.a1
        have ha2 := GS.out.a2
        have hb0 := GS.out.b0
        have hb1 := GS.out.b1
        have hb2 := GS.out.b2
        unfold regS at ha0 ha1 ha2 hb0 hb1 hb2
        rw [hr9] at HI2 HOW ha0 ha1 ha2 hb0 hb1 hb2
        have HR9 := Lib.hid hr9
        clear hr9
        obtain ⟨rk, of, om, af, am, bf, bm⟩ := r9
        simp only [] at ha0 ha1 ha2 hb0 hb1 hb2
        obtain ⟨cur, hcur, hcells⟩ := OwnR.last HOW.out
        have hp3 := (bCell hcur ((headS (runS a b pre) x).out.length * 7 + 3)).trans (hcells 3 (by omega))
        have hp4 := (bCell hcur ((headS (runS a b pre) x).out.length * 7 + 4)).trans (hcells 4 (by omega))
        have hp5 := (bCell hcur ((headS (runS a b pre) x).out.length * 7 + 5)).trans (hcells 5 (by omega))
        have hp6 := (bCell hcur ((headS (runS a b pre) x).out.length * 7 + 6)).trans (hcells 6 (by omega))
        have hp0 := (bCell hcur ((headS (runS a b pre) x).out.length * 7)).trans (by simpa using hcells 0 (by omega))
        have hpf := bFree hcur ((headS (runS a b pre) x).out.length * 7)
        simp only [Reg.cells] at hp3 hp4 hp5 hp6 hp0
        have HP0 := Lib.hid hp0; have HPF := Lib.hid hpf; have HCUR := Lib.hid hcur
        clear hcells hp0 hpf hcur
        have hca := (bCell HI2.out.ba 0).trans rfl
        have hcb := (bCell HI2.out.bb 0).trans rfl
        have HRA := Lib.hid (HA.out.ch HI2.out.ch)
        have HRB := Lib.hid (HB.out.ch HI2.out.ch)
        gi_wp2_with fail
        refine wpIn_region_tail (G := gds [Gd.is ?pr10v0, Gd.is ?pr10v1, Gd.is ?pr10v2, Gd.is ?pr10v3, Gd.is ?pr10v4, Gd.is ?pr10v5, Gd.is ?pr10v6, ⟨fun v X => SL (cutL a af am) v X, fun v A B h hc => h.ch hc⟩, Gd.is ?pr10v8, Gd.is ?pr10v9, Gd.is ?pr10v10, Gd.is ?pr10v11, Gd.is ?pr10v12, ⟨fun v X => SL (cutL b bf bm) v X, fun v A B h hc => h.ch hc⟩, Gd.is ?pr10v14, Gd.is ?pr10v15, Gd.is ?pr10v16]) 17 (by kernel_rfl) (by kernel_rfl) (fun ⟨_, _, h⟩ => h) (by kernel_rfl) rfl (by kernel_rfl) gds_st ?pobl10 ?pfin10
        case pobl10 =>
          simp only [Obls, and_true, List.take_succ_cons, List.take_zero]
          refine ⟨?_, ?_, ?_, ?_, ?_, ?_, ?_, ?_, ?_, ?_, ?_, ?_, ?_, ?_, ?_, ?_, ?_⟩
          · intro vs W hW hd
            simp only [fill, List.setIfInBounds_toArray, List.set_cons_zero, List.set_cons_succ]
            clear hd
            go_wp2_with (fail)
            refine ⟨rfl, rfl, Ch.refl _ _, gds_is rfl ?_⟩
            (conv => lhs; whnf)
          · intro vs W hW hd
            simp only [fill, List.setIfInBounds_toArray, List.set_cons_zero, List.set_cons_succ]
            clear hd
            have hWW := (Ch.refl no Y).drew.same hW
            have hcc := fun i => bCell (hWW.blk HGC2.out (no_not _)) i
            have hl1 := cell_ch hWW hp3
            have hl2 := cell_ch hWW hp4
            have hl3 := cell_ch hWW hp5
            have hl4 := cell_ch hWW hp6
            have hl5 := cell_ch hWW hca
            have hl6 := cell_ch hWW hcb
            go_wp2_with (fail)
            refine ⟨rfl, rfl, Ch.refl _ _, gds_is rfl ?_⟩
            (conv => lhs; whnf)
          · intro vs W hW hd
            simp only [fill, List.setIfInBounds_toArray, List.set_cons_zero, List.set_cons_succ]
            clear hd
            have hWW := (Ch.refl no Y).drew.same hW
            have hcc := fun i => bCell (hWW.blk HGC2.out (no_not _)) i
            have hl1 := cell_ch hWW hp3
            have hl2 := cell_ch hWW hp4
            have hl3 := cell_ch hWW hp5
            have hl4 := cell_ch hWW hp6
            have hl5 := cell_ch hWW hca
            have hl6 := cell_ch hWW hcb
            go_wp2_with (fail)
            refine ⟨rfl, rfl, Ch.refl _ _, gds_is rfl ?_⟩
            (conv => lhs; whnf)
          · intro vs W hW hd
            simp only [fill, List.setIfInBounds_toArray, List.set_cons_zero, List.set_cons_succ]
            clear hd
            go_wp2_with (fail)
            refine ⟨rfl, rfl, Ch.refl _ _, gds_is rfl ?_⟩
            (conv => lhs; whnf)
          · intro vs W hW hd
            simp only [fill, List.setIfInBounds_toArray, List.set_cons_zero, List.set_cons_succ]
            have d3 := gds_at rfl (hd ⟨3, .data⟩ (by simp) rfl)
            rw [d3]
            clear hd d3
            go_wp2_with (fail)
            refine ⟨rfl, rfl, Ch.refl _ _, gds_is rfl ?_⟩
            (conv => lhs; whnf)
          · intro vs W hW hd
            simp only [fill, List.setIfInBounds_toArray, List.set_cons_zero, List.set_cons_succ]
            have d4 := gds_at rfl (hd ⟨4, .data⟩ (by simp) rfl)
            rw [d4]
            clear hd d4
            go_wp2_with (fail)
            refine ⟨rfl, rfl, Ch.refl _ _, gds_is rfl ?_⟩
            (conv => lhs; whnf)
          · intro vs W hW hd
            simp only [fill, List.setIfInBounds_toArray, List.set_cons_zero, List.set_cons_succ]
            have d5 := gds_at rfl (hd ⟨5, .data⟩ (by simp) rfl)
            rw [d5]
            clear hd d5
            have hWW := (Ch.refl no Y).drew.same hW
            have hcc := fun i => bCell (hWW.blk HGC2.out (no_not _)) i
            have hl1 := cell_ch hWW hp3
            have hl2 := cell_ch hWW hp4
            have hl3 := cell_ch hWW hp5
            have hl4 := cell_ch hWW hp6
            have hl5 := cell_ch hWW hca
            have hl6 := cell_ch hWW hcb
            go_wp2_with (fail)
            refine ⟨rfl, rfl, Ch.refl _ _, gds_is rfl ?_⟩
            (conv => lhs; whnf)
          · intro vs W hW hd
            simp only [fill, List.setIfInBounds_toArray, List.set_cons_zero, List.set_cons_succ]
            have d2 := gds_at rfl (hd ⟨2, .data⟩ (by simp) rfl)
            have d6 := gds_at rfl (hd ⟨6, .data⟩ (by simp) rfl)
            rw [d2, d6]
            clear hd d2 d6
            have hWW := (Ch.refl no Y).drew.same hW
            have hcc := fun i => bCell (hWW.blk HGC2.out (no_not _)) i
            have hl1 := cell_ch hWW hp3
            have hl2 := cell_ch hWW hp4
            have hl3 := cell_ch hWW hp5
            have hl4 := cell_ch hWW hp6
            have hl5 := cell_ch hWW hca
            have hl6 := cell_ch hWW hcb
            go_wp2_with (refine (acut_any Aa ca a af am W (HRA.out.ch hWW) ha0 ha1 ha2).mono ?_; rintro e w' ⟨A', c', rfl, hrw, hch⟩)
            refine ⟨rfl, rfl, hch.mono (fun _ h => h.elim), gds_mk rfl ⟨A', c', ?_, hrw⟩⟩
            (conv => lhs; whnf)
          · intro vs W hW hd
            simp only [fill, List.setIfInBounds_toArray, List.set_cons_zero, List.set_cons_succ]
            clear hd
            have hWW := (Ch.refl no Y).drew.same hW
            have hcc := fun i => bCell (hWW.blk HGC2.out (no_not _)) i
            have hl1 := cell_ch hWW hp3
            have hl2 := cell_ch hWW hp4
            have hl3 := cell_ch hWW hp5
            have hl4 := cell_ch hWW hp6
            have hl5 := cell_ch hWW hca
            have hl6 := cell_ch hWW hcb
            go_wp2_with (fail)
            refine ⟨rfl, rfl, Ch.refl _ _, gds_is rfl ?_⟩
            (conv => lhs; whnf)
          · intro vs W hW hd
            simp only [fill, List.setIfInBounds_toArray, List.set_cons_zero, List.set_cons_succ]
            clear hd
            go_wp2_with (fail)
            refine ⟨rfl, rfl, Ch.refl _ _, gds_is rfl ?_⟩
            (conv => lhs; whnf)
          · intro vs W hW hd
            simp only [fill, List.setIfInBounds_toArray, List.set_cons_zero, List.set_cons_succ]
            have d9 := gds_at rfl (hd ⟨9, .data⟩ (by simp) rfl)
            rw [d9]
            clear hd d9
            go_wp2_with (fail)
            refine ⟨rfl, rfl, Ch.refl _ _, gds_is rfl ?_⟩
            (conv => lhs; whnf)
          · intro vs W hW hd
            simp only [fill, List.setIfInBounds_toArray, List.set_cons_zero, List.set_cons_succ]
            have d10 := gds_at rfl (hd ⟨10, .data⟩ (by simp) rfl)
            rw [d10]
            clear hd d10
            go_wp2_with (fail)
            refine ⟨rfl, rfl, Ch.refl _ _, gds_is rfl ?_⟩
            (conv => lhs; whnf)
          · intro vs W hW hd
            simp only [fill, List.setIfInBounds_toArray, List.set_cons_zero, List.set_cons_succ]
            have d11 := gds_at rfl (hd ⟨11, .data⟩ (by simp) rfl)
            rw [d11]
            clear hd d11
            have hWW := (Ch.refl no Y).drew.same hW
            have hcc := fun i => bCell (hWW.blk HGC2.out (no_not _)) i
            have hl1 := cell_ch hWW hp3
            have hl2 := cell_ch hWW hp4
            have hl3 := cell_ch hWW hp5
            have hl4 := cell_ch hWW hp6
            have hl5 := cell_ch hWW hca
            have hl6 := cell_ch hWW hcb
            go_wp2_with (fail)
            refine ⟨rfl, rfl, Ch.refl _ _, gds_is rfl ?_⟩
            (conv => lhs; whnf)
          · intro vs W hW hd
            simp only [fill, List.setIfInBounds_toArray, List.set_cons_zero, List.set_cons_succ]
            have d8 := gds_at rfl (hd ⟨8, .data⟩ (by simp) rfl)
            have d12 := gds_at rfl (hd ⟨12, .data⟩ (by simp) rfl)
            rw [d8, d12]
            clear hd d8 d12
            have hWW := (Ch.refl no Y).drew.same hW
            have hcc := fun i => bCell (hWW.blk HGC2.out (no_not _)) i
            have hl1 := cell_ch hWW hp3
            have hl2 := cell_ch hWW hp4
            have hl3 := cell_ch hWW hp5
            have hl4 := cell_ch hWW hp6
            have hl5 := cell_ch hWW hca
            have hl6 := cell_ch hWW hcb
            go_wp2_with (refine (acut_any Ab cb b bf bm W (HRB.out.ch hWW) hb0 hb1 hb2).mono ?_; rintro e w' ⟨A', c', rfl, hrw, hch⟩)
            refine ⟨rfl, rfl, hch.mono (fun _ h => h.elim), gds_mk rfl ⟨A', c', ?_, hrw⟩⟩
            (conv => lhs; whnf)
          · intro vs W hW hd
            simp only [fill, List.setIfInBounds_toArray, List.set_cons_zero, List.set_cons_succ]
            have d1 := gds_at rfl (hd ⟨1, .data⟩ (by simp) rfl)
            have d7 := gds_get rfl (hd ⟨7, .data⟩ (by simp) rfl)
            obtain ⟨A7, c7, e7, r7⟩ := d7
            rw [e7]
            have d13 := gds_get rfl (hd ⟨13, .data⟩ (by simp) rfl)
            obtain ⟨A13, c13, e13, r13⟩ := d13
            rw [e13]
            rw [d1]
            clear hd d1
            have hWW := (Ch.refl no Y).drew.same hW
            have hcc := fun i => bCell (hWW.blk HGC2.out (no_not _)) i
            have hl1 := cell_ch hWW hp3
            have hl2 := cell_ch hWW hp4
            have hl3 := cell_ch hWW hp5
            have hl4 := cell_ch hWW hp6
            have hl5 := cell_ch hWW hca
            have hl6 := cell_ch hWW hcb
            have R7 := Lib.hid r7; have R13 := Lib.hid r13; clear r7 r13 e7 e13
            go_wp2_with (refine (kind_of x A7 A13 c7 c13 (cutL a af am) (cutL b bf bm) W R7.out R13.out).mono ?_; rintro e w' ⟨rfl, hch⟩)
            refine ⟨rfl, rfl, hch.mono (fun _ h => h.elim), gds_is rfl ?_⟩
            (conv => lhs; whnf)
          · intro vs W hW hd
            simp only [fill, List.setIfInBounds_toArray, List.set_cons_zero, List.set_cons_succ]
            have d0 := gds_at rfl (hd ⟨0, .data⟩ (by simp) rfl)
            rw [d0]
            clear hd d0
            go_wp2_with (fail)
            refine ⟨rfl, rfl, Ch.refl _ _, gds_is rfl ?_⟩
            (conv => lhs; whnf)
          · intro vs W hW hd
            simp only [fill, List.setIfInBounds_toArray, List.set_cons_zero, List.set_cons_succ]
            have d15 := gds_at rfl (hd ⟨15, .data⟩ (by simp) rfl)
            rw [d15]
            clear hd d15
            go_wp2_with (fail)
            refine ⟨rfl, rfl, Ch.refl _ _, gds_is rfl ?_⟩
            (conv => lhs; whnf)
        case pfin10 =>
          intro vs W hW hd
          simp only [fill, List.setIfInBounds_toArray, List.set_cons_zero, List.set_cons_succ, List.take_succ_cons, List.take_zero, List.drop_succ_cons, List.drop_zero]
          have d0 := gds_at rfl (hd 0 (by omega))
          have d1 := gds_at rfl (hd 1 (by omega))
          have d2 := gds_at rfl (hd 2 (by omega))
          have d3 := gds_at rfl (hd 3 (by omega))
          have d4 := gds_at rfl (hd 4 (by omega))
          have d5 := gds_at rfl (hd 5 (by omega))
          have d6 := gds_at rfl (hd 6 (by omega))
          have d7 := gds_get rfl (hd 7 (by omega))
          have d8 := gds_at rfl (hd 8 (by omega))
          have d9 := gds_at rfl (hd 9 (by omega))
          have d10 := gds_at rfl (hd 10 (by omega))
          have d11 := gds_at rfl (hd 11 (by omega))
          have d12 := gds_at rfl (hd 12 (by omega))
          have d13 := gds_get rfl (hd 13 (by omega))
          have d14 := gds_at rfl (hd 14 (by omega))
          have d15 := gds_at rfl (hd 15 (by omega))
          have d16 := gds_at rfl (hd 16 (by omega))
          rw [d0, d1, d2, d3, d4, d5, d6, d8, d9, d10, d11, d12, d14, d15, d16]
          clear hd d0 d1 d2 d3 d4 d5 d6 d8 d9 d10 d11 d12 d14 d15 d16
          clear d7 d13
          have hWW := (Ch.refl no Y).drew.same hW
          have hst := cell_ch hWW HP0.out
          have hsf := bFree (hWW.blk HCUR.out (no_not _)) ((headS (runS a b pre) x).out.length * 7)
          have HI3 := Lib.hid (HI2.out.step hWW)
          have HCV3 := Lib.hid (HCV2.out.same (hWW.mono (fun _ h => h.elim)))
          have HGC3 := Lib.hid (hWW.blk HGC2.out (no_not _))
          clear hWW hW hca hcb hp3 hp4 hp5 hp6
          go_wp2_with fail
          have HI4 := Lib.hid (HI3.out.setK HBX.out (kindOf x (cutL a af am) (cutL b bf bm)))
          have hs4 := Ch.set1 W g ((headS (runS a b pre) x).out.length * 7) (.int .i64 (kindOf x (cutL a af am) (cutL b bf bm)))
          have hgB : nL + 2 ≤ g := own_ge HOW.out g rfl
          have HCV4 := Lib.hid (HCV3.out.same (hs4.mono (fun k (h : k = g) => .inr (.inr (.inr (by omega))))))
          have hgc4 := hs4.blk HGC3.out (fun h => HGO.out _ _ HOW.out HGC2.out (by rw [← (h : gc = g)]; rfl))
          have hk1 := (bCell hgc4 1).trans rfl
          have hk2 := (bCell HI4.out.b10 0).trans rfl
          have hk3 := bFree HI4.out.b10 0
          clear hs4 hgc4 hst hsf
          gi_wp2_with fail
          have HI5 := HI4.out.setAt HBX.out x.to_
          refine ⟨HCV4.out.same ?_, .slice (some ⟨g, 0, none⟩) ((headS (runS a b pre) x).out.length + 1) cap, ?_⟩
          · exact (Ch.set1 _ g10 0 _).mono (fun k (h : k = g10) => .inr (.inr (.inl h)))
          rw [runS_snoc]
          unfold stepS kindS
          rw [show regS (runS a b pre) x = ⟨rk, of, om, af, am, bf, bm⟩ from HR9.out]
          exact HI5
      · have hlt' : ¬ ((runS a b pre).at_ : Int) < (x.from_ : Int) := by omega
        have HIh : Hid (RI w X (nL + 2) n0 g5 g7 g8 g9 g10 Aa Ab ca cb a b v (headS (runS a b pre) x)) := Lib.hid (by unfold headS; rw [if_neg hlt]; exact HI.out)
        have HCV : Hid (Ch (fun k => k = g7 ∨ k = g8 ∨ k = g10 ∨ nL + 2 ≤ k) X X) := Lib.hid (Ch.refl _ _)
        have HGO : Hid (∀ (v : Value) (rs : List Reg) {Y : World}, OwnR Y (nL + 2) v rs → Y.heap[gc]? = some (.cells x.cells 165 (0, 0)) → v.ownBlock ≠ some gc) := Lib.hid (fun v rs Y h hb => own_type h hb (by decide))
        have HGCy := HGC
        have HZy := HZ
        clear hlt
        have hcc := fun i => bCell HGCy.out i
        have hf9 := (bCell HIh.out.b9 0).trans rfl
        gi_wp2_with fail
        refine ⟨trivial, ?_⟩
        gi_at_call 125
        refine (CallsIn.inRound l (callsIn_wide.2 (add_of (headS (runS a b pre) x).last ((x.to_ : Int) - x.from_) x.m0 x.m1 g8 g7 (nL + 2) v (headS (runS a b pre) x).out _ GS.out.hm (by omega) GS.out.m0 GS.out.m1 HIh.out.b8 HIh.out.b7 HIh.out.own (by have := HBX.out; unfold Bx at this; omega) (by have := HBX.out; unfold Bx at this; omega) (by have := HBX.out; unfold Bx at this; omega) HZy.out (by have := GS.out.ln; omega)))).mono ?_
        rintro e Y ⟨g, cap, rfl, h8, h7, how, hch⟩
        have HI2 := Lib.hid (HIh.out.add HBX.out h8 h7 how hch)
        have HCH := Lib.hid hch
        have HOW := Lib.hid how
        have hvo := Lib.hid (fun k (hk : v.ownBlock = some k) => own_ge HIh.out.own k hk)
        have HCV2 : Hid (Ch (fun k => k = g7 ∨ k = g8 ∨ k = g10 ∨ nL + 2 ≤ k) X Y) := Lib.hid (HCV.out.same (hch.mono (fun k hk => by
          rcases hk with h | h | h
          · exact .inr (.inl h)
          · exact .inl h
          · exact .inr (.inr (.inr (hvo.out k h))))))
        have HGC2 : Hid (Y.heap[gc]? = some (.cells x.cells 165 (0, 0))) := Lib.hid (hch.blk HGCy.out (by
          have := HBX.out; unfold Bx at this
          rintro (h | h | h)
          · omega
          · omega
          · exact HGO.out v (headS (runS a b pre) x).out HIh.out.own HGCy.out h))
        clear h8 h7 how hch hcc hf9
        obtain ⟨r9, hr9⟩ : ∃ r, nextR (headS (runS a b pre) x).last ((x.to_ : Int) - x.from_) x.m0 x.m1 = r := ⟨_, rfl⟩
        have ha0 := GS.out.a0
        have ha1 := GS.out.a1
        have ha2 := GS.out.a2
        have hb0 := GS.out.b0
        have hb1 := GS.out.b1
        have hb2 := GS.out.b2
        unfold regS at ha0 ha1 ha2 hb0 hb1 hb2
        rw [hr9] at HI2 HOW ha0 ha1 ha2 hb0 hb1 hb2
        have HR9 := Lib.hid hr9
        clear hr9
        obtain ⟨rk, of, om, af, am, bf, bm⟩ := r9
        simp only [] at ha0 ha1 ha2 hb0 hb1 hb2
        obtain ⟨cur, hcur, hcells⟩ := OwnR.last HOW.out
        have hp3 := (bCell hcur ((headS (runS a b pre) x).out.length * 7 + 3)).trans (hcells 3 (by omega))
        have hp4 := (bCell hcur ((headS (runS a b pre) x).out.length * 7 + 4)).trans (hcells 4 (by omega))
        have hp5 := (bCell hcur ((headS (runS a b pre) x).out.length * 7 + 5)).trans (hcells 5 (by omega))
        have hp6 := (bCell hcur ((headS (runS a b pre) x).out.length * 7 + 6)).trans (hcells 6 (by omega))
        have hp0 := (bCell hcur ((headS (runS a b pre) x).out.length * 7)).trans (by simpa using hcells 0 (by omega))
        have hpf := bFree hcur ((headS (runS a b pre) x).out.length * 7)
        simp only [Reg.cells] at hp3 hp4 hp5 hp6 hp0
        have HP0 := Lib.hid hp0; have HPF := Lib.hid hpf; have HCUR := Lib.hid hcur
        clear hcells hp0 hpf hcur
        have hca := (bCell HI2.out.ba 0).trans rfl
        have hcb := (bCell HI2.out.bb 0).trans rfl
        have HRA := Lib.hid (HA.out.ch HI2.out.ch)
        have HRB := Lib.hid (HB.out.ch HI2.out.ch)
        gi_wp2_with fail
        refine wpIn_region_tail (G := gds [Gd.is ?qr10v0, Gd.is ?qr10v1, Gd.is ?qr10v2, Gd.is ?qr10v3, Gd.is ?qr10v4, Gd.is ?qr10v5, Gd.is ?qr10v6, ⟨fun v X => SL (cutL a af am) v X, fun v A B h hc => h.ch hc⟩, Gd.is ?qr10v8, Gd.is ?qr10v9, Gd.is ?qr10v10, Gd.is ?qr10v11, Gd.is ?qr10v12, ⟨fun v X => SL (cutL b bf bm) v X, fun v A B h hc => h.ch hc⟩, Gd.is ?qr10v14, Gd.is ?qr10v15, Gd.is ?qr10v16]) 17 (by kernel_rfl) (by kernel_rfl) (fun ⟨_, _, h⟩ => h) (by kernel_rfl) rfl (by kernel_rfl) gds_st ?qobl10 ?qfin10
        case qobl10 =>
          simp only [Obls, and_true, List.take_succ_cons, List.take_zero]
          refine ⟨?_, ?_, ?_, ?_, ?_, ?_, ?_, ?_, ?_, ?_, ?_, ?_, ?_, ?_, ?_, ?_, ?_⟩
          · intro vs W hW hd
            simp only [fill, List.setIfInBounds_toArray, List.set_cons_zero, List.set_cons_succ]
            clear hd
            go_wp2_with (fail)
            refine ⟨rfl, rfl, Ch.refl _ _, gds_is rfl ?_⟩
            (conv => lhs; whnf)
          · intro vs W hW hd
            simp only [fill, List.setIfInBounds_toArray, List.set_cons_zero, List.set_cons_succ]
            clear hd
            have hWW := (Ch.refl no Y).drew.same hW
            have hcc := fun i => bCell (hWW.blk HGC2.out (no_not _)) i
            have hl1 := cell_ch hWW hp3
            have hl2 := cell_ch hWW hp4
            have hl3 := cell_ch hWW hp5
            have hl4 := cell_ch hWW hp6
            have hl5 := cell_ch hWW hca
            have hl6 := cell_ch hWW hcb
            go_wp2_with (fail)
            refine ⟨rfl, rfl, Ch.refl _ _, gds_is rfl ?_⟩
            (conv => lhs; whnf)
          · intro vs W hW hd
            simp only [fill, List.setIfInBounds_toArray, List.set_cons_zero, List.set_cons_succ]
            clear hd
            have hWW := (Ch.refl no Y).drew.same hW
            have hcc := fun i => bCell (hWW.blk HGC2.out (no_not _)) i
            have hl1 := cell_ch hWW hp3
            have hl2 := cell_ch hWW hp4
            have hl3 := cell_ch hWW hp5
            have hl4 := cell_ch hWW hp6
            have hl5 := cell_ch hWW hca
            have hl6 := cell_ch hWW hcb
            go_wp2_with (fail)
            refine ⟨rfl, rfl, Ch.refl _ _, gds_is rfl ?_⟩
            (conv => lhs; whnf)
          · intro vs W hW hd
            simp only [fill, List.setIfInBounds_toArray, List.set_cons_zero, List.set_cons_succ]
            clear hd
            go_wp2_with (fail)
            refine ⟨rfl, rfl, Ch.refl _ _, gds_is rfl ?_⟩
            (conv => lhs; whnf)
          · intro vs W hW hd
            simp only [fill, List.setIfInBounds_toArray, List.set_cons_zero, List.set_cons_succ]
            have d3 := gds_at rfl (hd ⟨3, .data⟩ (by simp) rfl)
            rw [d3]
            clear hd d3
            go_wp2_with (fail)
            refine ⟨rfl, rfl, Ch.refl _ _, gds_is rfl ?_⟩
            (conv => lhs; whnf)
          · intro vs W hW hd
            simp only [fill, List.setIfInBounds_toArray, List.set_cons_zero, List.set_cons_succ]
            have d4 := gds_at rfl (hd ⟨4, .data⟩ (by simp) rfl)
            rw [d4]
            clear hd d4
            go_wp2_with (fail)
            refine ⟨rfl, rfl, Ch.refl _ _, gds_is rfl ?_⟩
            (conv => lhs; whnf)
          · intro vs W hW hd
            simp only [fill, List.setIfInBounds_toArray, List.set_cons_zero, List.set_cons_succ]
            have d5 := gds_at rfl (hd ⟨5, .data⟩ (by simp) rfl)
            rw [d5]
            clear hd d5
            have hWW := (Ch.refl no Y).drew.same hW
            have hcc := fun i => bCell (hWW.blk HGC2.out (no_not _)) i
            have hl1 := cell_ch hWW hp3
            have hl2 := cell_ch hWW hp4
            have hl3 := cell_ch hWW hp5
            have hl4 := cell_ch hWW hp6
            have hl5 := cell_ch hWW hca
            have hl6 := cell_ch hWW hcb
            go_wp2_with (fail)
            refine ⟨rfl, rfl, Ch.refl _ _, gds_is rfl ?_⟩
            (conv => lhs; whnf)
          · intro vs W hW hd
            simp only [fill, List.setIfInBounds_toArray, List.set_cons_zero, List.set_cons_succ]
            have d2 := gds_at rfl (hd ⟨2, .data⟩ (by simp) rfl)
            have d6 := gds_at rfl (hd ⟨6, .data⟩ (by simp) rfl)
            rw [d2, d6]
            clear hd d2 d6
            have hWW := (Ch.refl no Y).drew.same hW
            have hcc := fun i => bCell (hWW.blk HGC2.out (no_not _)) i
            have hl1 := cell_ch hWW hp3
            have hl2 := cell_ch hWW hp4
            have hl3 := cell_ch hWW hp5
            have hl4 := cell_ch hWW hp6
            have hl5 := cell_ch hWW hca
            have hl6 := cell_ch hWW hcb
            go_wp2_with (refine (acut_any Aa ca a af am W (HRA.out.ch hWW) ha0 ha1 ha2).mono ?_; rintro e w' ⟨A', c', rfl, hrw, hch⟩)
            refine ⟨rfl, rfl, hch.mono (fun _ h => h.elim), gds_mk rfl ⟨A', c', ?_, hrw⟩⟩
            (conv => lhs; whnf)
          · intro vs W hW hd
            simp only [fill, List.setIfInBounds_toArray, List.set_cons_zero, List.set_cons_succ]
            clear hd
            have hWW := (Ch.refl no Y).drew.same hW
            have hcc := fun i => bCell (hWW.blk HGC2.out (no_not _)) i
            have hl1 := cell_ch hWW hp3
            have hl2 := cell_ch hWW hp4
            have hl3 := cell_ch hWW hp5
            have hl4 := cell_ch hWW hp6
            have hl5 := cell_ch hWW hca
            have hl6 := cell_ch hWW hcb
            go_wp2_with (fail)
            refine ⟨rfl, rfl, Ch.refl _ _, gds_is rfl ?_⟩
            (conv => lhs; whnf)
          · intro vs W hW hd
            simp only [fill, List.setIfInBounds_toArray, List.set_cons_zero, List.set_cons_succ]
            clear hd
            go_wp2_with (fail)
            refine ⟨rfl, rfl, Ch.refl _ _, gds_is rfl ?_⟩
            (conv => lhs; whnf)
          · intro vs W hW hd
            simp only [fill, List.setIfInBounds_toArray, List.set_cons_zero, List.set_cons_succ]
            have d9 := gds_at rfl (hd ⟨9, .data⟩ (by simp) rfl)
            rw [d9]
            clear hd d9
            go_wp2_with (fail)
            refine ⟨rfl, rfl, Ch.refl _ _, gds_is rfl ?_⟩
            (conv => lhs; whnf)
          · intro vs W hW hd
            simp only [fill, List.setIfInBounds_toArray, List.set_cons_zero, List.set_cons_succ]
            have d10 := gds_at rfl (hd ⟨10, .data⟩ (by simp) rfl)
            rw [d10]
            clear hd d10
            go_wp2_with (fail)
            refine ⟨rfl, rfl, Ch.refl _ _, gds_is rfl ?_⟩
            (conv => lhs; whnf)
          · intro vs W hW hd
            simp only [fill, List.setIfInBounds_toArray, List.set_cons_zero, List.set_cons_succ]
            have d11 := gds_at rfl (hd ⟨11, .data⟩ (by simp) rfl)
            rw [d11]
            clear hd d11
            have hWW := (Ch.refl no Y).drew.same hW
            have hcc := fun i => bCell (hWW.blk HGC2.out (no_not _)) i
            have hl1 := cell_ch hWW hp3
            have hl2 := cell_ch hWW hp4
            have hl3 := cell_ch hWW hp5
            have hl4 := cell_ch hWW hp6
            have hl5 := cell_ch hWW hca
            have hl6 := cell_ch hWW hcb
            go_wp2_with (fail)
            refine ⟨rfl, rfl, Ch.refl _ _, gds_is rfl ?_⟩
            (conv => lhs; whnf)
          · intro vs W hW hd
            simp only [fill, List.setIfInBounds_toArray, List.set_cons_zero, List.set_cons_succ]
            have d8 := gds_at rfl (hd ⟨8, .data⟩ (by simp) rfl)
            have d12 := gds_at rfl (hd ⟨12, .data⟩ (by simp) rfl)
            rw [d8, d12]
            clear hd d8 d12
            have hWW := (Ch.refl no Y).drew.same hW
            have hcc := fun i => bCell (hWW.blk HGC2.out (no_not _)) i
            have hl1 := cell_ch hWW hp3
            have hl2 := cell_ch hWW hp4
            have hl3 := cell_ch hWW hp5
            have hl4 := cell_ch hWW hp6
            have hl5 := cell_ch hWW hca
            have hl6 := cell_ch hWW hcb
            go_wp2_with (refine (acut_any Ab cb b bf bm W (HRB.out.ch hWW) hb0 hb1 hb2).mono ?_; rintro e w' ⟨A', c', rfl, hrw, hch⟩)
            refine ⟨rfl, rfl, hch.mono (fun _ h => h.elim), gds_mk rfl ⟨A', c', ?_, hrw⟩⟩
            (conv => lhs; whnf)
          · intro vs W hW hd
            simp only [fill, List.setIfInBounds_toArray, List.set_cons_zero, List.set_cons_succ]
            have d1 := gds_at rfl (hd ⟨1, .data⟩ (by simp) rfl)
            have d7 := gds_get rfl (hd ⟨7, .data⟩ (by simp) rfl)
            obtain ⟨A7, c7, e7, r7⟩ := d7
            rw [e7]
            have d13 := gds_get rfl (hd ⟨13, .data⟩ (by simp) rfl)
            obtain ⟨A13, c13, e13, r13⟩ := d13
            rw [e13]
            rw [d1]
            clear hd d1
            have hWW := (Ch.refl no Y).drew.same hW
            have hcc := fun i => bCell (hWW.blk HGC2.out (no_not _)) i
            have hl1 := cell_ch hWW hp3
            have hl2 := cell_ch hWW hp4
            have hl3 := cell_ch hWW hp5
            have hl4 := cell_ch hWW hp6
            have hl5 := cell_ch hWW hca
            have hl6 := cell_ch hWW hcb
            have R7 := Lib.hid r7; have R13 := Lib.hid r13; clear r7 r13 e7 e13
            go_wp2_with (refine (kind_of x A7 A13 c7 c13 (cutL a af am) (cutL b bf bm) W R7.out R13.out).mono ?_; rintro e w' ⟨rfl, hch⟩)
            refine ⟨rfl, rfl, hch.mono (fun _ h => h.elim), gds_is rfl ?_⟩
            (conv => lhs; whnf)
          · intro vs W hW hd
            simp only [fill, List.setIfInBounds_toArray, List.set_cons_zero, List.set_cons_succ]
            have d0 := gds_at rfl (hd ⟨0, .data⟩ (by simp) rfl)
            rw [d0]
            clear hd d0
            go_wp2_with (fail)
            refine ⟨rfl, rfl, Ch.refl _ _, gds_is rfl ?_⟩
            (conv => lhs; whnf)
          · intro vs W hW hd
            simp only [fill, List.setIfInBounds_toArray, List.set_cons_zero, List.set_cons_succ]
            have d15 := gds_at rfl (hd ⟨15, .data⟩ (by simp) rfl)
            rw [d15]
            clear hd d15
            go_wp2_with (fail)
            refine ⟨rfl, rfl, Ch.refl _ _, gds_is rfl ?_⟩
            (conv => lhs; whnf)
        case qfin10 =>
          intro vs W hW hd
          simp only [fill, List.setIfInBounds_toArray, List.set_cons_zero, List.set_cons_succ, List.take_succ_cons, List.take_zero, List.drop_succ_cons, List.drop_zero]
          have d0 := gds_at rfl (hd 0 (by omega))
          have d1 := gds_at rfl (hd 1 (by omega))
          have d2 := gds_at rfl (hd 2 (by omega))
          have d3 := gds_at rfl (hd 3 (by omega))
          have d4 := gds_at rfl (hd 4 (by omega))
          have d5 := gds_at rfl (hd 5 (by omega))
          have d6 := gds_at rfl (hd 6 (by omega))
          have d7 := gds_get rfl (hd 7 (by omega))
          have d8 := gds_at rfl (hd 8 (by omega))
          have d9 := gds_at rfl (hd 9 (by omega))
          have d10 := gds_at rfl (hd 10 (by omega))
          have d11 := gds_at rfl (hd 11 (by omega))
          have d12 := gds_at rfl (hd 12 (by omega))
          have d13 := gds_get rfl (hd 13 (by omega))
          have d14 := gds_at rfl (hd 14 (by omega))
          have d15 := gds_at rfl (hd 15 (by omega))
          have d16 := gds_at rfl (hd 16 (by omega))
          rw [d0, d1, d2, d3, d4, d5, d6, d8, d9, d10, d11, d12, d14, d15, d16]
          clear hd d0 d1 d2 d3 d4 d5 d6 d8 d9 d10 d11 d12 d14 d15 d16
          clear d7 d13
          have hWW := (Ch.refl no Y).drew.same hW
          have hst := cell_ch hWW HP0.out
          have hsf := bFree (hWW.blk HCUR.out (no_not _)) ((headS (runS a b pre) x).out.length * 7)
          have HI3 := Lib.hid (HI2.out.step hWW)
          have HCV3 := Lib.hid (HCV2.out.same (hWW.mono (fun _ h => h.elim)))
          have HGC3 := Lib.hid (hWW.blk HGC2.out (no_not _))
          clear hWW hW hca hcb hp3 hp4 hp5 hp6
          go_wp2_with fail
          have HI4 := Lib.hid (HI3.out.setK HBX.out (kindOf x (cutL a af am) (cutL b bf bm)))
          have hs4 := Ch.set1 W g ((headS (runS a b pre) x).out.length * 7) (.int .i64 (kindOf x (cutL a af am) (cutL b bf bm)))
          have hgB : nL + 2 ≤ g := own_ge HOW.out g rfl
          have HCV4 := Lib.hid (HCV3.out.same (hs4.mono (fun k (h : k = g) => .inr (.inr (.inr (by omega))))))
          have hgc4 := hs4.blk HGC3.out (fun h => HGO.out _ _ HOW.out HGC2.out (by rw [← (h : gc = g)]; rfl))
          have hk1 := (bCell hgc4 1).trans rfl
          have hk2 := (bCell HI4.out.b10 0).trans rfl
          have hk3 := bFree HI4.out.b10 0
          clear hs4 hgc4 hst hsf
          gi_wp2_with fail
          have HI5 := HI4.out.setAt HBX.out x.to_
          refine ⟨HCV4.out.same ?_, .slice (some ⟨g, 0, none⟩) ((headS (runS a b pre) x).out.length + 1) cap, ?_⟩
          · exact (Ch.set1 _ g10 0 _).mono (fun k (h : k = g10) => .inr (.inr (.inl h)))
          rw [runS_snoc]
          unfold stepS kindS
          rw [show regS (runS a b pre) x = ⟨rk, of, om, af, am, bf, bm⟩ from HR9.out]
          exact HI5
    case done =>
      intro X ⟨v, HI⟩ hZ' hK
      have HKK := Lib.hid hK
      clear hK
      have HBX : Hid (Bx w (nL + 2) n0 g5 g7 g8 g9 g10) := by
        have hgs := HGS.out
        have := HNL.out
        exact Lib.hid ⟨hgs.1, hgs.2.1, hgs.2.2.1, hgs.2.2.2.1, hgs.2.2.2.2.1, hgs.2.2.2.2.2, by omega⟩
      have HRO : Hid (regionsOf o a b = (endS (runS a b (clusOf (diffOf o a) (diffOf o b))) o.length).out) := Lib.hid rfl
      obtain ⟨s, hs⟩ : ∃ s, runS a b (clusOf (diffOf o a) (diffOf o b)) = s := ⟨_, rfl⟩
      rw [hs] at HI HE HRO
      have HS := Lib.hid hs
      clear hs
      have HZ : Hid (nL + 2 ≤ X.heap.size) := Lib.hid (by rw [← HNL.out]; exact hZ')
      clear hZ'
      obtain ⟨he1, he2, he3⟩ := HE.out
      have HE2 := Lib.hid he2
      clear he2
      have hc10 := (bCell HI.out.b10 0).trans rfl
      by_cases hlt : s.at_ < o.length
      · have hlt' : (s.at_ : Int) < (o.length : Int) := by omega
        have hf9 := (bCell HI.out.b9 0).trans rfl
        go_wp2_with fail
        refine (add_of s.last ((o.length : Int) - s.at_) 0 0 g8 g7 (nL + 2) v s.out _ HE2.out (by omega) (by omega) (by omega) HI.out.b8 HI.out.b7 HI.out.own (by have := HBX.out; unfold Bx at this; omega) (by have := HBX.out; unfold Bx at this; omega) (by have := HBX.out; unfold Bx at this; omega) HZ.out (by omega)).mono ?_
        rintro e Y ⟨g, cap, rfl, h8, h7, how, hch⟩
        have HF : Hid (RI w Y (nL + 2) n0 g5 g7 g8 g9 g10 Aa Ab ca cb a b (.slice (some ⟨g, 0, none⟩) (s.out.length + 1) cap) (endS s o.length)) := Lib.hid (by unfold endS; rw [if_pos hlt]; exact HI.out.add HBX.out h8 h7 how hch)
        have HKY := Lib.hid (hch.blk HKK.out (fun h => by
          have hb := HBX.out; unfold Bx at hb
          have hn := HNL.out
          rcases h with h | h | h
          · omega
          · omega
          · have := own_ge HI.out.own _ h; omega))
        clear h8 h7 how hch hc10 hf9 hlt hlt'
        have hco := (bCell HF.out.b7 0).trans rfl
        go_wp2_with fail
        refine ⟨by simp, .inl ⟨_, _, rfl, run_takeDeferred HKY.out, ?_⟩⟩
        have hput := ch_putObj Y w'.heap.size (.deferred none)
        have hfin := HF.out.keep hput ?_ ?_ ?_ ?_ ?_ ?_ ?_ ?_
        · exact ⟨_, results_tmp rfl _ _ _, _, rfl, by rw [HRO.out]; exact own_less hfin.own (by have := HBX.out; unfold Bx at this; omega), hfin.ch⟩
        all_goals
          have hb := HBX.out; unfold Bx at hb
          have hn := HNL.out
        · intro k h
          have : k = w'.heap.size := h
          omega
        · intro h; have h' : n0 = w'.heap.size := h; omega
        · intro h; have h' : g5 = w'.heap.size := h; omega
        · intro h; have h' : g7 = w'.heap.size := h; omega
        · intro h; have h' : g8 = w'.heap.size := h; omega
        · intro h; have h' : g9 = w'.heap.size := h; omega
        · intro h; have h' : g10 = w'.heap.size := h; omega
        · intro k hk h; have h' : k = w'.heap.size := h; have := own_ge HF.out.own k hk; omega
      · have hlt' : ¬ (s.at_ : Int) < (o.length : Int) := by omega
        have HF : Hid (RI w X (nL + 2) n0 g5 g7 g8 g9 g10 Aa Ab ca cb a b v (endS s o.length)) := Lib.hid (by unfold endS; rw [if_neg hlt]; exact HI.out)
        have hco := (bCell HF.out.b7 0).trans rfl
        clear hlt
        go_wp2_with fail
        refine ⟨by simp, .inl ⟨_, _, rfl, run_takeDeferred HKK.out, ?_⟩⟩
        have hput := ch_putObj X w'.heap.size (.deferred none)
        have hfin := HF.out.keep hput ?_ ?_ ?_ ?_ ?_ ?_ ?_ ?_
        · exact ⟨_, results_tmp rfl _ _ _, _, rfl, by rw [HRO.out]; exact own_less hfin.own (by have := HBX.out; unfold Bx at this; omega), hfin.ch⟩
        all_goals
          have hb := HBX.out; unfold Bx at hb
          have hn := HNL.out
        · intro k h
          have : k = w'.heap.size := h
          omega
        · intro h; have h' : n0 = w'.heap.size := h; omega
        · intro h; have h' : g5 = w'.heap.size := h; omega
        · intro h; have h' : g7 = w'.heap.size := h; omega
        · intro h; have h' : g8 = w'.heap.size := h; omega
        · intro h; have h' : g9 = w'.heap.size := h; omega
        · intro h; have h' : g10 = w'.heap.size := h; omega
        · intro k hk h; have h' : k = w'.heap.size := h; have := own_ge HF.out.own k hk; omega

end Go.Proofs.YtekeiieefkgopaaDoor.Ng
