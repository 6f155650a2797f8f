/- The document's answer: what becomes of a path: walked. The document's answer: two sides' trees, together: walked. The chapter's example (blend). BlendTells: two sides' trees, together, and the paths that clash, are as the document says. -/
import Derived.Test.YtekeiieefkgopaaTa
import Derived.Test.YtekeiieefkgopaaQv
import Derived.Test.YtekeiieefkgopaaXc
namespace Go.Proofs.Ytekeiieefkgopaa.Tb
open Go Go.RowKit Go.Proofs.Ytekeiieefkgopaa.Aa Go.Proofs.Ytekeiieefkgopaa.Vw Go.Proofs.Ytekeiieefkgopaa.Ma Go.Proofs.Ytekeiieefkgopaa.Mb Go.Proofs.Ytekeiieefkgopaa.Na Go.Proofs.Ytekeiieefkgopaa.No Go.Proofs.Ytekeiieefkgopaa.Nq Go.Proofs.Ytekeiieefkgopaa.Ba Go.Proofs.Ytekeiieefkgopaa.Bb Go.Proofs.Ytekeiieefkgopaa.Bc Go.Proofs.Ytekeiieefkgopaa.Bg Go.Proofs.Ytekeiieefkgopaa.Bk Go.Proofs.Ytekeiieefkgopaa.Bn Go.Proofs.Ytekeiieefkgopaa.Bp Go.Proofs.Ytekeiieefkgopaa.Qs Go.Proofs.Ytekeiieefkgopaa.Ta
set_option linter.unusedVariables false
set_option linter.unusedSimpArgs false

set_option maxRecDepth 100000 in
set_option maxHeartbeats 16000000 in
theorem rone_of (Ao Aa Ab : Option Addr) (co ca cb : Nat) (o a b : List Fl) (p : ByteArray) (w : World) (ho : file.Row w Ao co o) (ha : file.Row w Aa ca a) (hb : file.Row w Ab cb b) (zo : Szs 1000 o) (za : Szs 1000 a) (zb : Szs 1000 b) :
    Calls Try.prog 19 #[.slice Ao o.length co, .slice Aa a.length ca, .slice Ab b.length cb, .string p] w fun e w' =>
      e = .returned (.tuple #[.string (oneB (ofF o p) (ofF a p) (ofF b p)).1.text, .bool (oneB (ofF o p) (ofF a p) (ofF b p)).1.is, .bool (oneB (ofF o p) (ofF a p) (ofF b p)).2]) ∧ Ch no w w' := by
  have h1 := get_of Ao co o p w ho
  have h2 := get_of Aa ca a p w ha
  have h3 := get_of Ab cb b p w hb
  have zx := ofF_size zo p; have zy := ofF_size za p; have zz := ofF_size zb p
  have sx := ofF_shape o p; have sy := ofF_shape a p; have sz := ofF_shape b p
  obtain ⟨X, hX⟩ : ∃ X, ofF o p = X := ⟨_, rfl⟩
  obtain ⟨Y, hY⟩ : ∃ Y, ofF a p = Y := ⟨_, rfl⟩
  obtain ⟨Z, hZ⟩ : ∃ Z, ofF b p = Z := ⟨_, rfl⟩
  rw [hX] at h1 zx sx ⊢
  rw [hY] at h2 zy sy ⊢
  rw [hZ] at h3 zz sz ⊢
  clear hX hY hZ ho ha hb zo za zb
  obtain ⟨x, ix, eX⟩ : ∃ x ix, Hid (X = ⟨x, ix⟩) := ⟨_, _, Lib.hid rfl⟩
  obtain ⟨y, iy, eY⟩ : ∃ y iy, Hid (Y = ⟨y, iy⟩) := ⟨_, _, Lib.hid rfl⟩
  obtain ⟨z, iz, eZ⟩ : ∃ z iz, Hid (Z = ⟨z, iz⟩) := ⟨_, _, Lib.hid rfl⟩
  have h1' := h1; have h2' := h2; have h3' := h3
  rw [eX.out] at h1' zx sx
  rw [eY.out] at h2' zy sy
  rw [eZ.out] at h3' zz sz
  simp only at h1' h2' h3' zx zy zz
  unfold Shape at sx sy sz
  simp only at sx sy sz
  clear h1 h2 h3
  go_enter Try.func19, Try.ntmps19
  go_wp2_with fail
  refine h1'.mono ?_
  rintro e w' ⟨rfl, hw⟩
  subst hw
  clear h1'
  go_wp2_with fail
  refine h2'.mono ?_
  rintro e w' ⟨rfl, hw⟩
  subst hw
  clear h2'
  go_wp2_with fail
  refine h3'.mono ?_
  rintro e w' ⟨rfl, hw⟩
  subst hw
  clear h3'
  have he := beq_yes (rfl : ByteArray.empty = ByteArray.empty)
  cases iy with
  | false =>
    obtain rfl := sy rfl
    cases iz with
    | false =>
      obtain rfl := sz rfl
      have HR : Hid (oneB X Y Z = (⟨ByteArray.empty, false⟩, false)) := Lib.hid (by rw [eX.out, eY.out, eZ.out]; simp [oneB, bothB])
      go_wp2_with fail
      go_ret3
      exact ⟨by rw [HR.out]; rfl, Ch.refl _ _⟩
    | true =>
      cases ix with
      | false =>
        obtain rfl := sx rfl
        have HR : Hid (oneB X Y Z = (⟨z, true⟩, false)) := Lib.hid (by rw [eX.out, eY.out, eZ.out]; simp [oneB, bothB])
        go_wp2_with fail
        go_ret3
        exact ⟨by rw [HR.out]; rfl, Ch.refl _ _⟩
      | true =>
        by_cases hzx : z = x
        · have b1 := beq_yes hzx
          have hc := Lib.hid hzx
          clear hzx
          have HR : Hid (oneB X Y Z = (⟨ByteArray.empty, false⟩, false)) := Lib.hid (by rw [eX.out, eY.out, eZ.out]; simp [oneB, bothB, hc.out])
          go_wp2_with fail
          go_ret3
          exact ⟨by rw [HR.out]; rfl, Ch.refl _ _⟩
        · have b1 := beq_no hzx
          have hc := Lib.hid hzx
          clear hzx
          have HR : Hid (oneB X Y Z = (⟨z, true⟩, true)) := Lib.hid (by rw [eX.out, eY.out, eZ.out]; simp [oneB, bothB, hc.out])
          go_wp2_with fail
          go_ret3
          exact ⟨by rw [HR.out]; rfl, Ch.refl _ _⟩
  | true =>
    cases iz with
    | false =>
      obtain rfl := sz rfl
      cases ix with
      | false =>
        obtain rfl := sx rfl
        have HR : Hid (oneB X Y Z = (⟨y, true⟩, false)) := Lib.hid (by rw [eX.out, eY.out, eZ.out]; simp [oneB, bothB])
        go_wp2_with fail
        go_ret3
        exact ⟨by rw [HR.out]; rfl, Ch.refl _ _⟩
      | true =>
        by_cases hyx : y = x
        · have b1 := beq_yes hyx
          have hc := Lib.hid hyx
          clear hyx
          have HR : Hid (oneB X Y Z = (⟨ByteArray.empty, false⟩, false)) := Lib.hid (by rw [eX.out, eY.out, eZ.out]; simp [oneB, bothB, hc.out])
          go_wp2_with fail
          go_ret3
          exact ⟨by rw [HR.out]; rfl, Ch.refl _ _⟩
        · have b1 := beq_no hyx
          have hc := Lib.hid hyx
          clear hyx
          have HR : Hid (oneB X Y Z = (⟨y, true⟩, true)) := Lib.hid (by rw [eX.out, eY.out, eZ.out]; simp [oneB, bothB, hc.out])
          go_wp2_with fail
          go_ret3
          exact ⟨by rw [HR.out]; rfl, Ch.refl _ _⟩
    | true =>
      by_cases hyz : y = z
      · have b1 := beq_yes hyz
        have hc := Lib.hid hyz
        clear hyz
        have HR : Hid (oneB X Y Z = (⟨y, true⟩, false)) := Lib.hid (by rw [eX.out, eY.out, eZ.out]; simp [oneB, bothB, hc.out])
        go_wp2_with fail
        go_ret3
        exact ⟨by rw [HR.out]; rfl, Ch.refl _ _⟩
      · have b1 := beq_no hyz
        have hc := Lib.hid hyz
        clear hyz
        cases ix with
        | false =>
          obtain rfl := sx rfl
          clear sx sy sz he
          obtain ⟨x, hx⟩ : ∃ x, x = ByteArray.empty := ⟨_, rfl⟩
          rw [← hx] at eX zx ⊢
          clear hx
          have HTT := refText_of x y z w zx zy zz
          have hno := clash_any x y z zx zy zz
          obtain ⟨rr, hrr⟩ : ∃ rr, textOf x y z = rr := ⟨_, rfl⟩
          have HB : Hid (oneB X Y Z = if 65536 < rr.1.size then (⟨maxS y z, true⟩, true) else (⟨rr.1, true⟩, decide (0 < rr.2))) := Lib.hid (by rw [eX.out, eY.out, eZ.out, ← hrr]; simp [oneB, bothB, hc.out])
          rw [hrr] at HTT hno
          clear hrr
          obtain ⟨s, n⟩ := rr
          simp only at hno HB
          go_wp2_with fail
          refine HTT.mono ?_
          rintro e w4 ⟨rfl, hc4⟩
          have HC4 := Lib.hid hc4
          clear hc4 HTT
          by_cases hs : 65536 < s.size
          · have hs1 : (65536 : Int) < (s.size : Int) := by omega
            have hsl := rless_of y z w4 zy zz
            obtain ⟨d, hd⟩ : ∃ d, less y z = d := ⟨_, rfl⟩
            have HM : Hid (maxS y z = if d then z else y) := Lib.hid (by rw [← hd]; rfl)
            rw [hd] at hsl
            clear hd
            go_wp2_with fail
            refine hsl.mono ?_
            rintro e w5 ⟨rfl, hc5⟩
            have HC5 := Lib.hid (HC4.out.then_ hc5)
            clear hc5 hsl
            cases d with
            | true =>
              go_wp2_with fail
              go_ret3
              exact ⟨by rw [HB.out, if_pos hs, HM.out]; rfl, HC5.out⟩
            | false =>
              go_wp2_with fail
              go_ret3
              exact ⟨by rw [HB.out, if_pos hs, HM.out]; rfl, HC5.out⟩
          · have hs1 : ¬ (65536 : Int) < (s.size : Int) := by omega
            go_wp2_with fail
            go_ret3
            exact ⟨by rw [HB.out, if_neg hs]; first | rfl | (simp only [Value.bool.injEq, Value.string.injEq]; done) | (congr 4; simp), HC4.out⟩
        | true =>
          clear sx sy sz he
          by_cases hzx : z = x
          · have b2 := beq_yes hzx
            have hd := Lib.hid hzx
            clear hzx
            have HR : Hid (oneB X Y Z = (⟨y, true⟩, false)) := Lib.hid (by rw [eX.out, eY.out, eZ.out]; simp [oneB, bothB, hc.out, hd.out])
            go_wp2_with fail
            go_ret3
            exact ⟨by rw [HR.out]; rfl, Ch.refl _ _⟩
          · have b2 := beq_no hzx
            have hd := Lib.hid hzx
            clear hzx
            by_cases hyx : y = x
            · have b3 := beq_yes hyx
              have hf := Lib.hid hyx
              clear hyx
              have HR : Hid (oneB X Y Z = (⟨z, true⟩, false)) := Lib.hid (by rw [eX.out, eY.out, eZ.out]; simp [oneB, bothB, hc.out, hd.out, hf.out])
              go_wp2_with fail
              go_ret3
              exact ⟨by rw [HR.out]; rfl, Ch.refl _ _⟩
            · have b3 := beq_no hyx
              have hf := Lib.hid hyx
              clear hyx
              have HTT := refText_of x y z w zx zy zz
              have hno := clash_any x y z zx zy zz
              obtain ⟨rr, hrr⟩ : ∃ rr, textOf x y z = rr := ⟨_, rfl⟩
              have HB : Hid (oneB X Y Z = if 65536 < rr.1.size then (⟨maxS y z, true⟩, true) else (⟨rr.1, true⟩, decide (0 < rr.2))) := Lib.hid (by rw [eX.out, eY.out, eZ.out, ← hrr]; simp [oneB, bothB, hc.out, hd.out, hf.out])
              rw [hrr] at HTT hno
              clear hrr
              obtain ⟨s, n⟩ := rr
              simp only at hno HB
              go_wp2_with fail
              refine HTT.mono ?_
              rintro e w4 ⟨rfl, hc4⟩
              have HC4 := Lib.hid hc4
              clear hc4 HTT
              by_cases hs : 65536 < s.size
              · have hs1 : (65536 : Int) < (s.size : Int) := by omega
                have hsl := rless_of y z w4 zy zz
                obtain ⟨d, hd⟩ : ∃ d, less y z = d := ⟨_, rfl⟩
                have HM : Hid (maxS y z = if d then z else y) := Lib.hid (by rw [← hd]; rfl)
                rw [hd] at hsl
                clear hd
                go_wp2_with fail
                refine hsl.mono ?_
                rintro e w5 ⟨rfl, hc5⟩
                have HC5 := Lib.hid (HC4.out.then_ hc5)
                clear hc5 hsl
                cases d with
                | true =>
                  go_wp2_with fail
                  go_ret3
                  exact ⟨by rw [HB.out, if_pos hs, HM.out]; rfl, HC5.out⟩
                | false =>
                  go_wp2_with fail
                  go_ret3
                  exact ⟨by rw [HB.out, if_pos hs, HM.out]; rfl, HC5.out⟩
              · have hs1 : ¬ (65536 : Int) < (s.size : Int) := by omega
                go_wp2_with fail
                go_ret3
                exact ⟨by rw [HB.out, if_neg hs]; first | rfl | (simp only [Value.bool.injEq, Value.string.injEq]; done) | (congr 4; simp), HC4.out⟩
end Go.Proofs.Ytekeiieefkgopaa.Tb
namespace Go.Proofs.Ytekeiieefkgopaa.Tc
open Go Go.RowKit Go.Proofs.Ytekeiieefkgopaa.Aa Go.Proofs.Ytekeiieefkgopaa.Vw Go.Proofs.Ytekeiieefkgopaa.Ma Go.Proofs.Ytekeiieefkgopaa.Mb Go.Proofs.Ytekeiieefkgopaa.Na Go.Proofs.Ytekeiieefkgopaa.Ne Go.Proofs.Ytekeiieefkgopaa.No Go.Proofs.Ytekeiieefkgopaa.Nq Go.Proofs.Ytekeiieefkgopaa.Ba Go.Proofs.Ytekeiieefkgopaa.Bb Go.Proofs.Ytekeiieefkgopaa.Bc Go.Proofs.Ytekeiieefkgopaa.Bg Go.Proofs.Ytekeiieefkgopaa.Bd Go.Proofs.Ytekeiieefkgopaa.Bk Go.Proofs.Ytekeiieefkgopaa.Bn Go.Proofs.Ytekeiieefkgopaa.Bp Go.Proofs.Ytekeiieefkgopaa.Ta Go.Proofs.Ytekeiieefkgopaa.Tb
set_option linter.unusedVariables false
set_option linter.unusedSimpArgs false

theorem two {w : World} {B B' : Nat} {vo vd : Value} {t : List Fl} {l : List ByteArray} (h : OwnT w B vo t) (h' : OwnS w B' vd l) (k : Nat) (h1 : vo.ownBlock = some k) : vd.ownBlock ≠ some k := by
  intro h2
  obtain ⟨_, ⟨rfl, _⟩ | ⟨g1, cap1, cur1, rfl, hb1, hg1, _⟩⟩ := h
  · simp [Value.ownBlock] at h1
  obtain ⟨_, ⟨rfl, _⟩ | ⟨g2, cap2, cur2, rfl, hb2, hg2, _⟩⟩ := h'
  · simp [Value.ownBlock] at h2
  simp only [Value.ownBlock, Option.some.injEq] at h1 h2
  subst h1; subst h2
  rw [hg1] at hg2
  exact absurd hg2 (by simp)
theorem step_next (o a b : List Fl) (l : List ByteArray) (k : Nat) (hk : k < l.length) : (l.take (k + 1)).foldl (stepTr o a b) ([], []) = stepTr o a b ((l.take k).foldl (stepTr o a b) ([], [])) l[k] := by
  rw [List.take_succ_eq_append_getElem hk, List.foldl_append]
  rfl
set_option maxRecDepth 100000 in
set_option maxHeartbeats 16000000 in
theorem rtrees_of (Ao Aa Ab : Option Addr) (co ca cb : Nat) (o a b : List Fl) (w : World) (ho : file.Row w Ao co o) (ha : file.Row w Aa ca a) (hb : file.Row w Ab cb b) (la : a.length ≤ 1000) (lb : b.length ≤ 1000) (zo : Szs 1000 o) (za : Szs 1000 a) (zb : Szs 1000 b) (ra : Rise a) (rb : Rise b) :
    Calls Try.prog 10 #[.slice Ao o.length co, .slice Aa a.length ca, .slice Ab b.length cb] w fun e w' => ∃ vo vd, e = .returned (.tuple #[vo, vd]) ∧ OwnT w' w.heap.size vo (treesL o a b).1 ∧ OwnS w' w.heap.size vd (treesL o a b).2 ∧ Ch no w w' := by
  obtain ⟨i0, hi, hz0, hz1, hz2⟩ := info_parts infoStr
  obtain ⟨j0, ji, jz0, jz1, jz2⟩ := info_parts infoFile
  have hp := paths_of Aa Ab ca cb a b w ha hb la lb za zb
  rw [rpaths_eq ra rb] at hp
  have hpl := paths_len a b
  have HTR : Hid (treesL o a b = (pathsL a b).foldl (stepTr o a b) ([], [])) := Lib.hid rfl
  obtain ⟨l, hl⟩ : ∃ l, pathsL a b = l := ⟨_, rfl⟩
  rw [hl] at hp hpl HTR
  have HRO := Lib.hid ho; have HRA := Lib.hid ha; have HRB := Lib.hid hb; have ZO := Lib.hid zo; have ZA := Lib.hid za; have ZB := Lib.hid zb
  clear ho ha hb zo za zb ra rb hl
  go_enter Try.func10, Try.ntmps10
  go_wp2_with fail
  refine hp.mono ?_
  rintro e w1 ⟨v1, rfl, ho1, hc1⟩
  obtain ⟨Al, cl, rfl⟩ := own_shape ho1
  have HL := Lib.hid (row_of_own ho1); have HC1 := Lib.hid hc1
  have hl1 := HL.out.len
  clear ho1 hc1 hp
  go_wp2_with fail
  obtain ⟨N, hN⟩ : ∃ N, w1.heap.size = N := ⟨_, rfl⟩
  have HN : Hid (w.heap.size ≤ N) := Lib.hid (by rw [← hN]; exact HC1.out.size)
  have hNw : N ≤ w1.heap.size := by omega
  have hNw2 : w1.heap.size ≤ N := by omega
  have HT0 : Hid (OwnT w1 N (.slice none 0 0) ((l.take 0).foldl (stepTr o a b) ([], [])).1) := Lib.hid ⟨by simp [fcells], .inl ⟨rfl, by simp⟩⟩
  have HS0 : Hid (OwnS w1 N (.slice none 0 0) ((l.take 0).foldl (stepTr o a b) ([], [])).2) := Lib.hid ⟨by simp, .inl ⟨rfl, by simp⟩⟩
  clear hN
  go_loopw [8, 9, 11] (fun vo vd i wr => ∃ k : Nat, k ≤ l.length ∧ i = .int .i64 k ∧ ((l.take k).foldl (stepTr o a b) ([], [])).1.length ≤ 1000 ∧ ((l.take k).foldl (stepTr o a b) ([], [])).2.length ≤ k ∧ Hid (OwnT wr N vo ((l.take k).foldl (stepTr o a b) ([], [])).1) ∧ Hid (OwnS wr N vd ((l.take k).foldl (stepTr o a b) ([], [])).2) ∧ Hid (Ch no w1 wr)) (fun _ _ i _ => l.length - (intOf i).toNat)
  case atStart => exact ⟨0, by omega, rfl, by simp, by simp, HT0, HS0, Lib.hid (Ch.refl _ _)⟩
  case round =>
    clear HT0 HS0
    obtain ⟨k, hk, rfl, l1, l2, HT, HS, HC⟩ := hrel
    have hwz := HC.out.size
    by_cases hlt : k < l.length
    · obtain ⟨ad, had, p0⟩ := (HL.out.ch HC.out).flat_at k hlt
      subst had
      have HNX := Lib.hid (step_next o a b l k hlt)
      obtain ⟨p, hp⟩ : ∃ p, l[k] = p := ⟨_, rfl⟩
      replace p0 : wr.cell? (ad.add k) = some (.string p) := p0.trans (congrArg (fun z => some (Value.string z)) hp)
      rw [hp] at HNX
      have HPE := Lib.hid hp
      clear hp
      obtain ⟨s, hs⟩ : ∃ s, (l.take k).foldl (stepTr o a b) ([], []) = s := ⟨_, rfl⟩
      rw [hs] at HNX HT HS l1 l2
      clear hs
      obtain ⟨t1, t2⟩ := s
      simp only at l1 l2
      obtain ⟨A1, c1, h1⟩ := own_shape HT.out
      subst h1
      obtain ⟨A2, c2, h2⟩ := own_shape HS.out
      subst h2
      simp only at HT HS
      have hone := rone_of Ao Aa Ab co ca cb o a b p wr ((HRO.out.ch HC1.out).ch HC.out) ((HRA.out.ch HC1.out).ch HC.out) ((HRB.out.ch HC1.out).ch HC.out) ZO.out ZA.out ZB.out
      have hst : stepTr o a b (t1, t2) p = (if (oneB (ofF o p) (ofF a p) (ofF b p)).1.is && decide (t1.length < 1000) then t1 ++ [⟨p, (oneB (ofF o p) (ofF a p) (ofF b p)).1.text⟩] else t1, if (oneB (ofF o p) (ofF a p) (ofF b p)).2 then t2 ++ [p] else t2) := rfl
      rw [hst] at HNX
      clear hst
      obtain ⟨r, hr⟩ : ∃ r, oneB (ofF o p) (ofF a p) (ofF b p) = r := ⟨_, rfl⟩
      rw [hr] at HNX hone
      clear hr
      obtain ⟨⟨tx, is⟩, cl2⟩ := r
      simp only at HNX hone
      go_wp2_with fail
      refine hone.mono ?_
      rintro e w2 ⟨rfl, hc2⟩
      have HC2 := Lib.hid (HC.out.then_ hc2)
      have HT2 := Lib.hid (own_ch HT.out hc2 (fun _ _ => no_not _)); have HS2 := Lib.hid (own_ch HS.out hc2 (fun _ _ => no_not _))
      have hwz2 := HC2.out.size
      replace p0 := cell_ch hc2 p0
      have HONP : Hid (∀ u ∈ [Value.string p], u.oneCell' = true) := Lib.hid (by simp [Value.oneCell'])
      have HONF : Hid (∀ u ∈ [Value.string p, Value.string tx], u.oneCell' = true) := Lib.hid (by simp [Value.oneCell'])
      clear hc2 hone HT HS
      cases cl2 with
      | false =>
        cases is with
        | false =>
          go_wp2_with fail
          go_roundw
          case rel => exact ⟨k + 1, by omega, by go_num, by rw [HNX.out]; simpa using l1, by rw [HNX.out]; simp; omega, Lib.hid (by rw [HNX.out]; exact HT2.out), Lib.hid (by rw [HNX.out]; exact HS2.out), HC2⟩
          case measure => simp [intOf]; omega
        | true =>
          by_cases hf : t1.length < 1000
          · have hf1 : (t1.length : Int) < 1000 := by omega
            go_wp2_with (at_builtin; refine wpList_append_own _ rfl _ _ 22 rfl N 34 j0 _ 2 32 Try.underlying22 ji jz0 jz1 jz2 rfl (by omega) _ t1.length _ rfl (own_ch HT2.out ((Ch.refl no w2).alloc _) (fun _ _ => no_not _)) ⟨w2.heap.size, 0, none⟩ 1 1 [.string p, .string tx] rfl rfl (news_of w2 [.string p, .string tx] _) HONF.out (by unfold maxLen; omega) (by omega) (by simp; omega) ?_; intro v9 w_v9 hown9 hgrow9 _; obtain ⟨A_v9, c_v9, h_v9⟩ := own_shape hown9; subst h_v9; have HO_v9 := Lib.hid hown9; have HG_v9 := Lib.hid (((Ch.refl _ w2).alloc _).same (grown_ch hgrow9)); clear hown9 hgrow9)
            go_roundw
            case rel => exact ⟨k + 1, by omega, by go_num, by rw [HNX.out]; simp [hf]; omega, by rw [HNX.out]; simp; omega, Lib.hid (by rw [HNX.out]; simp only [hf, decide_true, Bool.and_self, if_true]; exact own_more HO_v9.out), Lib.hid (by rw [HNX.out]; exact own_ch HS2.out HG_v9.out (fun j hj e => two HT2.out HS2.out j e.symm hj)), Lib.hid (HC2.out.trans HG_v9.out (fun i hi h => by have := own_ge HT2.out i h.symm; omega))⟩
            case measure => simp [intOf]; omega
          · have hf1 : ¬ (t1.length : Int) < 1000 := by omega
            go_wp2_with fail
            go_roundw
            case rel => exact ⟨k + 1, by omega, by go_num, by rw [HNX.out]; simp [hf]; omega, by rw [HNX.out]; simp; omega, Lib.hid (by rw [HNX.out]; simp only [hf, decide_false, Bool.and_false, Bool.false_eq_true, if_false]; exact HT2.out), Lib.hid (by rw [HNX.out]; exact HS2.out), HC2⟩
            case measure => simp [intOf]; omega
      | true =>
        go_upto_region 10 with (at_builtin; refine wpList_append_own _ rfl _ _ 25 rfl N 9 i0 _ 1 16 Try.underlying25 hi hz0 hz1 hz2 rfl (by omega) _ t2.length _ rfl (own_ch HS2.out ((Ch.refl no w2).alloc _) (fun _ _ => no_not _)) ⟨w2.heap.size, 0, none⟩ 1 1 [.string p] rfl rfl (news_of w2 [.string p] _) HONP.out (by unfold maxLen; omega) (by omega) (by simp; omega) ?_; intro v8 w_v8 hown9 hgrow9 _; obtain ⟨A_v8, c_v8, h_v8⟩ := own_shape hown9; subst h_v8; have HO_v8 := Lib.hid hown9; have HG_v8 := Lib.hid (((Ch.refl _ w2).alloc _).same (grown_ch hgrow9)); clear hown9 hgrow9)
        have HC3 : Hid (Ch no w1 w_v8) := Lib.hid (HC2.out.trans HG_v8.out (fun i hi h => by have := own_ge HS2.out i h.symm; omega))
        have HT3 : Hid (OwnT w_v8 N (.slice A1 t1.length c1) t1) := Lib.hid (own_ch HT2.out HG_v8.out (fun j hj e => two HT2.out HS2.out j hj e.symm))
        have HS3 : Hid (OwnS w_v8 N (.slice A_v8 (t2.length + 1) c_v8) (t2 ++ [p])) := Lib.hid (own_more2 HO_v8.out)
        have hwz3 := HC3.out.size
        obtain ⟨ad', had, p1⟩ := (HL.out.ch HC3.out).flat_at k hlt
        cases had
        replace p1 : w_v8.cell? (ad.add k) = some (.string p) := p1.trans (congrArg (fun z => some (Value.string z)) HPE.out)
        clear p0
        cases is with
        | false =>
          go_wp2_with fail
          go_roundw
          case rel => exact ⟨k + 1, by omega, by go_num, by rw [HNX.out]; simpa using l1, by rw [HNX.out]; simp; omega, Lib.hid (by rw [HNX.out]; exact HT3.out), Lib.hid (by rw [HNX.out]; exact HS3.out), HC3⟩
          case measure => simp [intOf]; omega
        | true =>
          by_cases hf : t1.length < 1000
          · have hf1 : (t1.length : Int) < 1000 := by omega
            go_wp2_with (at_builtin; refine wpList_append_own _ rfl _ _ 22 rfl N 34 j0 _ 2 32 Try.underlying22 ji jz0 jz1 jz2 rfl (by omega) _ t1.length _ rfl (own_ch HT3.out ((Ch.refl no w_v8).alloc _) (fun _ _ => no_not _)) ⟨w_v8.heap.size, 0, none⟩ 1 1 [.string p, .string tx] rfl rfl (news_of w_v8 [.string p, .string tx] _) HONF.out (by unfold maxLen; omega) (by omega) (by simp; omega) ?_; intro v9 w_v9 hown9 hgrow9 _; obtain ⟨A_v9, c_v9, h_v9⟩ := own_shape hown9; subst h_v9; have HO_v9 := Lib.hid hown9; have HG_v9 := Lib.hid (((Ch.refl _ w_v8).alloc _).same (grown_ch hgrow9)); clear hown9 hgrow9)
            go_roundw
            case rel => exact ⟨k + 1, by omega, by go_num, by rw [HNX.out]; simp [hf]; omega, by rw [HNX.out]; simp; omega, Lib.hid (by rw [HNX.out]; simp only [hf, decide_true, Bool.and_self, if_true]; exact own_more HO_v9.out), Lib.hid (by rw [HNX.out]; exact own_ch HS3.out HG_v9.out (fun j hj e => two HT3.out HS3.out j e.symm hj)), Lib.hid (HC3.out.trans HG_v9.out (fun i hi h => by have := own_ge HT3.out i h.symm; omega))⟩
            case measure => simp [intOf]; omega
          · have hf1 : ¬ (t1.length : Int) < 1000 := by omega
            go_wp2_with fail
            go_roundw
            case rel => exact ⟨k + 1, by omega, by go_num, by rw [HNX.out]; simp [hf]; omega, by rw [HNX.out]; simp; omega, Lib.hid (by rw [HNX.out]; simp only [hf, decide_false, Bool.and_false, Bool.false_eq_true, if_false]; exact HT3.out), Lib.hid (by rw [HNX.out]; exact HS3.out), HC3⟩
            case measure => simp [intOf]; omega
    · have HTK : Hid (l.take k = l) := Lib.hid (by rw [List.take_of_length_le (by omega)])
      rw [HTK.out, ← HTR.out] at HT HS
      go_wp2_with fail
      go_ret2
      exact ⟨_, _, rfl, own_less HT.out HN.out, own_less HS.out HN.out, HC1.out.then_ HC.out⟩
end Go.Proofs.Ytekeiieefkgopaa.Tc
namespace Go.Proofs.Ytekeiieefkgopaa.Bq
open Go.RowKit Go.Proofs.Ytekeiieefkgopaa.Aa Go.Proofs.Ytekeiieefkgopaa.Vw Go.Proofs.Ytekeiieefkgopaa.Ma Go.Proofs.Ytekeiieefkgopaa.Mb Go.Proofs.Ytekeiieefkgopaa.Mr Go.Proofs.Ytekeiieefkgopaa.Mt Go.Proofs.Ytekeiieefkgopaa.Na Go.Proofs.Ytekeiieefkgopaa.No Go.Proofs.Ytekeiieefkgopaa.Nq Go.Proofs.Ytekeiieefkgopaa.Ba Go.Proofs.Ytekeiieefkgopaa.Bb Go.Proofs.Ytekeiieefkgopaa.Bk Go.Proofs.Ytekeiieefkgopaa.Bm Go.Proofs.Ytekeiieefkgopaa.Bn Go.Proofs.Ytekeiieefkgopaa.Bo Go.Proofs.Ytekeiieefkgopaa.Bp
set_option linter.unusedVariables false
set_option linter.unusedSimpArgs false

theorem str_block {W : World} {g : Nat} (xs : List ByteArray) (h : W.heap[g]? = some (.cells (xs.map Value.string).toArray 9 (0, 0))) (hl : xs.length ≤ 1000) : El.str.Row W (some ⟨g, 0, none⟩) xs.length xs := by
  have ho : OwnS W g (.slice (some ⟨g, 0, none⟩) xs.length xs.length) xs := ⟨by simp, .inr ⟨g, xs.length, _, rfl, Nat.le_refl _, h, Nat.le_refl _, by unfold maxLen; omega, by simp, by simp [List.take_of_length_le]⟩⟩
  obtain ⟨A, cap, e, hr⟩ := El.Row.of_own ho
  injection e with e1 e2 e3
  subst e1; subst e3
  exact hr
theorem aw1 (Aa Ab : Option Addr) (w : World) (ha : file.Row w Aa 1 [fx1]) (hb : file.Row w Ab 1 [fy2]) : Calls Try.prog 9 #[.slice none 0 0, .slice Aa 1 1, .slice Ab 1 1] w fun e w' => ∃ A c Ad cd, e = .returned (.tuple #[.slice A 2 c, .slice Ad 0 cd]) ∧ file.Row w' A c [fx1, fy2] ∧ El.str.Row w' Ad cd [] ∧ Ch no w w' := by
  have h := trees_any [] [fx1] [fy2] none Aa Ab 0 1 1 w (El.Row.nil _ _) ha hb (by unfold Rise; simp) (rise1 _) (rise1 _) (by simp) (by simp) (by simp) (by intro f hf; simp at hf) (szs1 _ (by decide) (by decide)) (szs1 _ (by decide) (by decide))
  unfold TreesP at h
  rw [ex1] at h
  exact h
theorem aw2 (Ao Aa Ab : Option Addr) (w : World) (ho : file.Row w Ao 1 [fx0]) (ha : file.Row w Aa 1 [fx1]) (hb : file.Row w Ab 1 [fy2]) : Calls Try.prog 9 #[.slice Ao 1 1, .slice Aa 1 1, .slice Ab 1 1] w fun e w' => ∃ A c Ad cd, e = .returned (.tuple #[.slice A 2 c, .slice Ad 1 cd]) ∧ file.Row w' A c [fx1, fy2] ∧ El.str.Row w' Ad cd [⟨#[120]⟩] ∧ Ch no w w' := by
  have h := trees_any [fx0] [fx1] [fy2] Ao Aa Ab 1 1 1 w ho ha hb (rise1 _) (rise1 _) (rise1 _) (by simp) (by simp) (by simp) (szs1 _ (by decide) (by decide)) (szs1 _ (by decide) (by decide)) (szs1 _ (by decide) (by decide))
  unfold TreesP at h
  rw [ex2] at h
  exact h

set_option maxRecDepth 100000 in
set_option maxHeartbeats 8000000 in
theorem awake_of (w : World) : Calls Try.prog 7 #[] w fun e w' => e = .returned (.bool true) ∧ Ch no w w' := by
  obtain ⟨g, hg⟩ : ∃ g, w.heap.size = g := ⟨_, rfl⟩
  have hal := al2 w (.cells #[.string ⟨#[120]⟩, .string ⟨#[49]⟩] 34) (.cells #[.string ⟨#[121]⟩, .string ⟨#[50]⟩] 34)
  have hc2 : Ch no w ((w.alloc (.cells #[.string ⟨#[120]⟩, .string ⟨#[49]⟩] 34)).alloc (.cells #[.string ⟨#[121]⟩, .string ⟨#[50]⟩] 34)) := ((Ch.refl no w).alloc _).alloc _
  obtain ⟨W2, hW2⟩ : ∃ W2, (w.alloc (.cells #[.string ⟨#[120]⟩, .string ⟨#[49]⟩] 34)).alloc (.cells #[.string ⟨#[121]⟩, .string ⟨#[50]⟩] 34) = W2 := ⟨_, rfl⟩
  rw [hW2, hg] at hal
  rw [hW2] at hc2
  have HA := Lib.hid (row_block [fx1] hal.1 (by decide)); have HB := Lib.hid (row_block [fy2] hal.2 (by decide))
  have HC2 := Lib.hid hc2; have HG := Lib.hid hg; have HAL := Lib.hid hal
  clear hg hal hc2
  go_enter Try.func7, Try.ntmps7
  go_upto_region 3 with (fail)
  rw [HG.out]
  clear hW2
  go_wp2_with fail
  refine (aw1 _ _ W2 HA.out HB.out).mono ?_
  rintro e W3 ⟨A3, c3, Ad, cd, rfl, hr3, hd3, hc3⟩
  have HR3 := Lib.hid hr3; have HC3 := Lib.hid hc3
  clear hr3 hd3 hc3
  have HA3 := Lib.hid (HA.out.ch HC3.out); have HB3 := Lib.hid (HB.out.ch HC3.out)
  have HN := Lib.hid (row_block [fx0] (bNew W3 (.cells (fcells [fx0]).toArray 34)) (by decide))
  go_wp2_with fail
  refine (aw2 _ _ _ _ HN.out (HA3.out.ch ((Ch.refl no _).alloc _)) (HB3.out.ch ((Ch.refl no _).alloc _))).mono ?_
  rintro e W5 ⟨A5, c5, A6, c6, rfl, hr5, hr6, hc5⟩
  have HR5 := Lib.hid hr5; have HR6 := Lib.hid hr6; have HC5 := Lib.hid (((Ch.refl no W3).alloc _).same hc5)
  have HC0 : Hid (Ch no w W5) := Lib.hid ((HC2.out.same HC3.out).same HC5.out)
  clear hr5 hr6 hc5
  have a0 := (bCell ((HC3.out.same HC5.out).blk HAL.out.1 (no_not _)) 0).trans rfl
  have a1 := (bCell ((HC3.out.same HC5.out).blk HAL.out.1 (no_not _)) 1).trans rfl
  have b0 := (bCell ((HC3.out.same HC5.out).blk HAL.out.2 (no_not _)) 0).trans rfl
  have b1 := (bCell ((HC3.out.same HC5.out).blk HAL.out.2 (no_not _)) 1).trans rfl
  go_wp2_with fail
  refine wp_region_tail (G := gds [Gd.is ?r5v0, Gd.is ?r5v1, Gd.is (.bool true), Gd.is (.bool true), Gd.is ?r5v4, Gd.is ?r5v5, Gd.is ?r5v6, Gd.is ?r5v7, Gd.is ?r5v8, Gd.is ?r5v9, Gd.is ?r5v10, ⟨fun v X => ∃ b, v = .slice (some ⟨b, 0, none⟩) 2 2 ∧ X.heap[b]? = some (.cells (fcells [fx1, fy2]).toArray 34 (0, 0)), fun v X Y ⟨b, h1, h2⟩ hc => ⟨b, h1, hc.blk h2 (no_not _)⟩⟩, Gd.is (.bool true), Gd.is (.bool true), Gd.is (.bool true), Gd.is ?r5v15, Gd.is ?r5v16, Gd.is (.bool true), Gd.is (.bool true), Gd.is (.bool true), Gd.is ?r5v20, ⟨fun v X => ∃ b, v = .slice (some ⟨b, 0, none⟩) 1 1 ∧ X.heap[b]? = some (.cells #[.string ⟨#[120]⟩] 9 (0, 0)), fun v X Y ⟨b, h1, h2⟩ hc => ⟨b, h1, hc.blk h2 (no_not _)⟩⟩, Gd.is (.bool true), Gd.is (.bool true)]) 24 (by kernel_rfl) (by kernel_rfl) rfl (by kernel_rfl) gds_st ?obl5 ?fin5
  case obl5 =>
    simp only [Obls, and_true, List.take_succ_cons, List.take_zero]
    refine ⟨?_, ?_, ?_, ?_, ?_, ?_, ?_, ?_, ?_, ?_, ?_, ?_, ?_, ?_, ?_, ?_, ?_, ?_, ?_, ?_, ?_, ?_, ?_, ?_⟩
    · intro vs W hW hd
      simp only [fill, List.setIfInBounds_toArray, List.set_cons_zero, List.set_cons_succ]
      clear hd
      go_wp2_with (fail)
      refine ⟨rfl, rfl, Ch.refl _ _, gds_is rfl ?_⟩
      (conv => lhs; whnf)
    · intro vs W hW hd
      simp only [fill, List.setIfInBounds_toArray, List.set_cons_zero, List.set_cons_succ]
      have d0 := gds_at rfl (hd ⟨0, .data⟩ (by simp) rfl)
      rw [d0]
      clear hd d0
      have hWW := (Ch.refl no W5).drew.same hW
      have q0 := cell_ch hWW a0
      have q1 := cell_ch hWW a1
      have q2 := cell_ch hWW b0
      have q3 := cell_ch hWW b1
      go_wp2_with (fail)
      refine ⟨rfl, rfl, Ch.refl _ _, gds_is rfl ?_⟩
      (conv => lhs; whnf)
    · intro vs W hW hd
      simp only [fill, List.setIfInBounds_toArray, List.set_cons_zero, List.set_cons_succ]
      have d1 := gds_at rfl (hd ⟨1, .data⟩ (by simp) rfl)
      rw [d1]
      clear hd d1
      go_wp2_with (fail)
      refine ⟨rfl, rfl, Ch.refl _ _, gds_is rfl ?_⟩
      (conv => lhs; whnf)
    · intro vs W hW hd
      simp only [fill, List.setIfInBounds_toArray, List.set_cons_zero, List.set_cons_succ]
      have d2 := gds_at rfl (hd ⟨2, .data⟩ (by simp) rfl)
      rw [d2]
      clear hd d2
      go_wp2_with (fail)
      refine ⟨rfl, rfl, Ch.refl _ _, gds_is rfl ?_⟩
      (conv => lhs; whnf)
    · intro vs W hW hd
      simp only [fill, List.setIfInBounds_toArray, List.set_cons_zero, List.set_cons_succ]
      have d3 := gds_at rfl (hd ⟨3, .guard⟩ (by simp) rfl)
      rw [d3]
      clear hd d3
      go_wp2_with (fail)
      refine ⟨rfl, rfl, Ch.refl _ _, gds_is rfl ?_⟩
      (conv => lhs; whnf)
    · intro vs W hW hd
      simp only [fill, List.setIfInBounds_toArray, List.set_cons_zero, List.set_cons_succ]
      have d3 := gds_at rfl (hd ⟨3, .guard⟩ (by simp) rfl)
      rw [d3]
      clear hd d3
      go_wp2_with (fail)
      refine ⟨rfl, rfl, Ch.refl _ _, gds_is rfl ?_⟩
      (conv => lhs; whnf)
    · intro vs W hW hd
      simp only [fill, List.setIfInBounds_toArray, List.set_cons_zero, List.set_cons_succ]
      have d3 := gds_at rfl (hd ⟨3, .guard⟩ (by simp) rfl)
      have d5 := gds_at rfl (hd ⟨5, .data⟩ (by simp) rfl)
      rw [d3, d5]
      clear hd d3 d5
      go_wp2_with (fail)
      refine ⟨rfl, rfl, Ch.refl _ _, gds_is rfl ?_⟩
      (conv => lhs; whnf)
    · intro vs W hW hd
      simp only [fill, List.setIfInBounds_toArray, List.set_cons_zero, List.set_cons_succ]
      have d3 := gds_at rfl (hd ⟨3, .guard⟩ (by simp) rfl)
      have d6 := gds_at rfl (hd ⟨6, .data⟩ (by simp) rfl)
      rw [d3, d6]
      clear hd d3 d6
      have hWW := (Ch.refl no W5).drew.same hW
      have q0 := cell_ch hWW a0
      have q1 := cell_ch hWW a1
      have q2 := cell_ch hWW b0
      have q3 := cell_ch hWW b1
      go_wp2_with (fail)
      refine ⟨rfl, rfl, Ch.refl _ _, gds_is rfl ?_⟩
      (conv => lhs; whnf)
    · intro vs W hW hd
      simp only [fill, List.setIfInBounds_toArray, List.set_cons_zero, List.set_cons_succ]
      have d3 := gds_at rfl (hd ⟨3, .guard⟩ (by simp) rfl)
      rw [d3]
      clear hd d3
      go_wp2_with (fail)
      refine ⟨rfl, rfl, Ch.refl _ _, gds_is rfl ?_⟩
      (conv => lhs; whnf)
    · intro vs W hW hd
      simp only [fill, List.setIfInBounds_toArray, List.set_cons_zero, List.set_cons_succ]
      have d3 := gds_at rfl (hd ⟨3, .guard⟩ (by simp) rfl)
      have d8 := gds_at rfl (hd ⟨8, .data⟩ (by simp) rfl)
      rw [d3, d8]
      clear hd d3 d8
      go_wp2_with (fail)
      refine ⟨rfl, rfl, Ch.refl _ _, gds_is rfl ?_⟩
      (conv => lhs; whnf)
    · intro vs W hW hd
      simp only [fill, List.setIfInBounds_toArray, List.set_cons_zero, List.set_cons_succ]
      have d3 := gds_at rfl (hd ⟨3, .guard⟩ (by simp) rfl)
      have d9 := gds_at rfl (hd ⟨9, .data⟩ (by simp) rfl)
      rw [d3, d9]
      clear hd d3 d9
      have hWW := (Ch.refl no W5).drew.same hW
      have q0 := cell_ch hWW a0
      have q1 := cell_ch hWW a1
      have q2 := cell_ch hWW b0
      have q3 := cell_ch hWW b1
      go_wp2_with (fail)
      refine ⟨rfl, rfl, Ch.refl _ _, gds_is rfl ?_⟩
      (conv => lhs; whnf)
    · intro vs W hW hd
      simp only [fill, List.setIfInBounds_toArray, List.set_cons_zero, List.set_cons_succ]
      have d3 := gds_at rfl (hd ⟨3, .guard⟩ (by simp) rfl)
      have d7 := gds_at rfl (hd ⟨7, .data⟩ (by simp) rfl)
      have d10 := gds_at rfl (hd ⟨10, .data⟩ (by simp) rfl)
      rw [d3, d7, d10]
      clear hd d3 d7 d10
      go_wp2_with (fail)
      exact ⟨rfl, rfl, (Ch.refl _ _).alloc _, gds_mk rfl ⟨_, rfl, bNew _ _⟩⟩
    · intro vs W hW hd
      simp only [fill, List.setIfInBounds_toArray, List.set_cons_zero, List.set_cons_succ]
      have d3 := gds_at rfl (hd ⟨3, .guard⟩ (by simp) rfl)
      have d4 := gds_at rfl (hd ⟨4, .data⟩ (by simp) rfl)
      have d11 := gds_get rfl (hd ⟨11, .data⟩ (by simp) rfl)
      obtain ⟨bb, e11, hbk⟩ := d11
      rw [e11]
      have HBK := Lib.hid hbk
      clear hbk e11
      rw [d3, d4]
      clear hd d3 d4
      have hWW := (Ch.refl no W5).drew.same hW
      have q0 := cell_ch hWW a0
      have q1 := cell_ch hWW a1
      have q2 := cell_ch hWW b0
      have q3 := cell_ch hWW b1
      go_wp2_with (have hs := same_of A3 (some ⟨bb, 0, none⟩) c3 2 [fx1, fy2] [fx1, fy2] W (HR3.out.ch (HC5.out.same hWW)) (row_block _ HBK.out (by decide)); rw [decide_eq_true (rfl : ([fx1, fy2] : List Fl) = [fx1, fy2])] at hs; refine hs.mono ?_; rintro e w2 ⟨rfl, hdr⟩; have hch := Dr.ch hdr no)
      exact ⟨rfl, rfl, hch, gds_is rfl rfl⟩
    · intro vs W hW hd
      simp only [fill, List.setIfInBounds_toArray, List.set_cons_zero, List.set_cons_succ]
      have d3 := gds_at rfl (hd ⟨3, .data⟩ (by simp) rfl)
      have d12 := gds_at rfl (hd ⟨12, .data⟩ (by simp) rfl)
      rw [d3, d12]
      clear hd d3 d12
      go_wp2_with (fail)
      refine ⟨rfl, rfl, Ch.refl _ _, gds_is rfl ?_⟩
      (conv => lhs; whnf)
    · intro vs W hW hd
      simp only [fill, List.setIfInBounds_toArray, List.set_cons_zero, List.set_cons_succ]
      have d13 := gds_at rfl (hd ⟨13, .data⟩ (by simp) rfl)
      rw [d13]
      clear hd d13
      go_wp2_with (fail)
      refine ⟨rfl, rfl, Ch.refl _ _, gds_is rfl ?_⟩
      (conv => lhs; whnf)
    · intro vs W hW hd
      simp only [fill, List.setIfInBounds_toArray, List.set_cons_zero, List.set_cons_succ]
      have d14 := gds_at rfl (hd ⟨14, .guard⟩ (by simp) rfl)
      rw [d14]
      clear hd d14
      go_wp2_with (fail)
      refine ⟨rfl, rfl, Ch.refl _ _, gds_is rfl ?_⟩
      (conv => lhs; whnf)
    · intro vs W hW hd
      simp only [fill, List.setIfInBounds_toArray, List.set_cons_zero, List.set_cons_succ]
      have d14 := gds_at rfl (hd ⟨14, .guard⟩ (by simp) rfl)
      rw [d14]
      clear hd d14
      go_wp2_with (fail)
      refine ⟨rfl, rfl, Ch.refl _ _, gds_is rfl ?_⟩
      (conv => lhs; whnf)
    · intro vs W hW hd
      simp only [fill, List.setIfInBounds_toArray, List.set_cons_zero, List.set_cons_succ]
      have d14 := gds_at rfl (hd ⟨14, .guard⟩ (by simp) rfl)
      have d15 := gds_at rfl (hd ⟨15, .data⟩ (by simp) rfl)
      have d16 := gds_at rfl (hd ⟨16, .data⟩ (by simp) rfl)
      rw [d14, d15, d16]
      clear hd d14 d15 d16
      have hWW := (Ch.refl no W5).drew.same hW
      have q0 := cell_ch hWW a0
      have q1 := cell_ch hWW a1
      have q2 := cell_ch hWW b0
      have q3 := cell_ch hWW b1
      go_wp2_with (have hs := same_of A5 A3 c5 c3 [fx1, fy2] [fx1, fy2] W (HR5.out.ch hWW) (HR3.out.ch (HC5.out.same hWW)); rw [decide_eq_true (rfl : ([fx1, fy2] : List Fl) = [fx1, fy2])] at hs; refine hs.mono ?_; rintro e w2 ⟨rfl, hdr⟩; have hch := Dr.ch hdr no)
      exact ⟨rfl, rfl, hch, gds_is rfl rfl⟩
    · intro vs W hW hd
      simp only [fill, List.setIfInBounds_toArray, List.set_cons_zero, List.set_cons_succ]
      have d14 := gds_at rfl (hd ⟨14, .data⟩ (by simp) rfl)
      have d17 := gds_at rfl (hd ⟨17, .data⟩ (by simp) rfl)
      rw [d14, d17]
      clear hd d14 d17
      go_wp2_with (fail)
      refine ⟨rfl, rfl, Ch.refl _ _, gds_is rfl ?_⟩
      (conv => lhs; whnf)
    · intro vs W hW hd
      simp only [fill, List.setIfInBounds_toArray, List.set_cons_zero, List.set_cons_succ]
      have d18 := gds_at rfl (hd ⟨18, .data⟩ (by simp) rfl)
      rw [d18]
      clear hd d18
      go_wp2_with (fail)
      refine ⟨rfl, rfl, Ch.refl _ _, gds_is rfl ?_⟩
      (conv => lhs; whnf)
    · intro vs W hW hd
      simp only [fill, List.setIfInBounds_toArray, List.set_cons_zero, List.set_cons_succ]
      have d19 := gds_at rfl (hd ⟨19, .guard⟩ (by simp) rfl)
      rw [d19]
      clear hd d19
      go_wp2_with (fail)
      refine ⟨rfl, rfl, Ch.refl _ _, gds_is rfl ?_⟩
      (conv => lhs; whnf)
    · intro vs W hW hd
      simp only [fill, List.setIfInBounds_toArray, List.set_cons_zero, List.set_cons_succ]
      have d19 := gds_at rfl (hd ⟨19, .guard⟩ (by simp) rfl)
      rw [d19]
      clear hd d19
      go_wp2_with (fail)
      exact ⟨rfl, rfl, (Ch.refl _ _).alloc _, gds_mk rfl ⟨_, rfl, bNew _ _⟩⟩
    · intro vs W hW hd
      simp only [fill, List.setIfInBounds_toArray, List.set_cons_zero, List.set_cons_succ]
      have d19 := gds_at rfl (hd ⟨19, .guard⟩ (by simp) rfl)
      have d20 := gds_at rfl (hd ⟨20, .data⟩ (by simp) rfl)
      have d21 := gds_get rfl (hd ⟨21, .data⟩ (by simp) rfl)
      obtain ⟨bb, e21, hbk⟩ := d21
      rw [e21]
      have HBK := Lib.hid hbk
      clear hbk e21
      rw [d19, d20]
      clear hd d19 d20
      have hWW := (Ch.refl no W5).drew.same hW
      have q0 := cell_ch hWW a0
      have q1 := cell_ch hWW a1
      have q2 := cell_ch hWW b0
      have q3 := cell_ch hWW b1
      go_wp2_with (have hs := texts_any A6 (some ⟨bb, 0, none⟩) c6 1 [⟨#[120]⟩] [⟨#[120]⟩] W (HR6.out.ch hWW) (str_block [⟨#[120]⟩] HBK.out (by decide)); rw [decide_eq_true (rfl : ([⟨#[120]⟩] : List ByteArray) = [⟨#[120]⟩])] at hs; refine hs.mono ?_; rintro e w2 ⟨rfl, hdr⟩; have hch := Dr.ch hdr no)
      exact ⟨rfl, rfl, hch, gds_is rfl rfl⟩
    · intro vs W hW hd
      simp only [fill, List.setIfInBounds_toArray, List.set_cons_zero, List.set_cons_succ]
      have d19 := gds_at rfl (hd ⟨19, .data⟩ (by simp) rfl)
      have d22 := gds_at rfl (hd ⟨22, .data⟩ (by simp) rfl)
      rw [d19, d22]
      clear hd d19 d22
      go_wp2_with (fail)
      refine ⟨rfl, rfl, Ch.refl _ _, gds_is rfl ?_⟩
      (conv => lhs; whnf)
  case fin5 =>
    intro vs W hW hd
    simp only [fill, List.setIfInBounds_toArray, List.set_cons_zero, List.set_cons_succ, List.take_succ_cons, List.take_zero, List.drop_succ_cons, List.drop_zero]
    have d0 := gds_at rfl (hd 0 (by omega))
    have d1 := gds_at rfl (hd 1 (by omega))
    have d2 := gds_at rfl (hd 2 (by omega))
    have d3 := gds_at rfl (hd 3 (by omega))
    have d4 := gds_at rfl (hd 4 (by omega))
    have d5 := gds_at rfl (hd 5 (by omega))
    have d6 := gds_at rfl (hd 6 (by omega))
    have d7 := gds_at rfl (hd 7 (by omega))
    have d8 := gds_at rfl (hd 8 (by omega))
    have d9 := gds_at rfl (hd 9 (by omega))
    have d10 := gds_at rfl (hd 10 (by omega))
    have d11 := gds_get rfl (hd 11 (by omega))
    have d12 := gds_at rfl (hd 12 (by omega))
    have d13 := gds_at rfl (hd 13 (by omega))
    have d14 := gds_at rfl (hd 14 (by omega))
    have d15 := gds_at rfl (hd 15 (by omega))
    have d16 := gds_at rfl (hd 16 (by omega))
    have d17 := gds_at rfl (hd 17 (by omega))
    have d18 := gds_at rfl (hd 18 (by omega))
    have d19 := gds_at rfl (hd 19 (by omega))
    have d20 := gds_at rfl (hd 20 (by omega))
    have d21 := gds_get rfl (hd 21 (by omega))
    have d22 := gds_at rfl (hd 22 (by omega))
    have d23 := gds_at rfl (hd 23 (by omega))
    rw [d0, d1, d2, d3, d4, d5, d6, d7, d8, d9, d10, d12, d13, d14, d15, d16, d17, d18, d19, d20, d22, d23]
    clear hd d0 d1 d2 d3 d4 d5 d6 d7 d8 d9 d10 d12 d13 d14 d15 d16 d17 d18 d19 d20 d22 d23
    have HCC := Lib.hid (HC0.out.same ((Ch.refl no W5).drew.same hW))
    clear hW
    go_wp2_with fail
    go_ret
    exact ⟨rfl, HCC.out⟩

end Go.Proofs.Ytekeiieefkgopaa.Bq
namespace Go.Proofs.Ytekeiieefkgopaa.Td
open Go.RowKit Go.Proofs.Ytekeiieefkgopaa.Aa Go.Proofs.Ytekeiieefkgopaa.Vw Go.Proofs.Ytekeiieefkgopaa.Ma Go.Proofs.Ytekeiieefkgopaa.Mb Go.Proofs.Ytekeiieefkgopaa.Mr Go.Proofs.Ytekeiieefkgopaa.Mt Go.Proofs.Ytekeiieefkgopaa.Na Go.Proofs.Ytekeiieefkgopaa.No Go.Proofs.Ytekeiieefkgopaa.Nq Go.Proofs.Ytekeiieefkgopaa.Ba Go.Proofs.Ytekeiieefkgopaa.Bb Go.Proofs.Ytekeiieefkgopaa.Bk Go.Proofs.Ytekeiieefkgopaa.Bm Go.Proofs.Ytekeiieefkgopaa.Bn Go.Proofs.Ytekeiieefkgopaa.Bo Go.Proofs.Ytekeiieefkgopaa.Bp Go.Proofs.Ytekeiieefkgopaa.Bq Go.Proofs.Ytekeiieefkgopaa.Tc
set_option linter.unusedVariables false
set_option linter.unusedSimpArgs false

def True1 (w : World) (e : Ending) (w' : World) : Prop := e = .returned (.bool true) ∧ Ch no w w'
theorem szs_up {m n : Nat} {t : List Fl} (h : Szs m t) (hmn : m ≤ n) : Szs n t := fun f hf => by have := h f hf; omega
theorem same_yes (A B : Option Addr) (c d : Nat) (xs : List Fl) (w : World) (hx : file.Row w A c xs) (hy : file.Row w B d xs) :
    Calls Try.prog 11 #[.slice A xs.length c, .slice B xs.length d] w fun e w' => e = .returned (.bool true) ∧ Ch no w w' := by
  have h := same_of A B c d xs xs w hx hy
  rw [decide_eq_true rfl] at h
  exact h.mono fun e w' h => ⟨h.1, h.2.ch no⟩
theorem texts_yes (A B : Option Addr) (c d : Nat) (xs : List ByteArray) (w : World) (hx : El.str.Row w A c xs) (hy : El.str.Row w B d xs) :
    Calls Try.prog 12 #[.slice A xs.length c, .slice B xs.length d] w fun e w' => e = .returned (.bool true) ∧ Ch no w w' := by
  have h := texts_any A B c d xs xs w hx hy
  rw [decide_eq_true rfl] at h
  exact h.mono fun e w' h => ⟨h.1, h.2.ch no⟩
set_option maxRecDepth 100000 in
set_option maxHeartbeats 8000000 in
theorem tells_law (Ao Aa Ab : Option Addr) (co ca cb : Nat) (o a b : List Fl) (w : World) (ho : file.Row w Ao co o) (ha : file.Row w Aa ca a) (hb : file.Row w Ab cb b) (zo : Szs 140737488355328 o) (za : Szs 140737488355328 a) (zb : Szs 140737488355328 b) :
    Calls Try.prog 3 #[.slice Ao o.length co, .slice Aa a.length ca, .slice Ab b.length cb] w (True1 w) := by
  have HO := Lib.hid ho; have HA := Lib.hid ha; have HB := Lib.hid hb; have ZO := Lib.hid zo; have ZA := Lib.hid za; have ZB := Lib.hid zb
  clear ho ha hb zo za zb
  go_enter Try.func3, Try.ntmps3
  go_wp2_with fail
  refine (awake_of w).mono ?_
  rintro e w1 ⟨rfl, hc⟩
  have C1 := Lib.hid hc
  clear hc
  go_wp2_with fail
  refine (good_of Ao co o w1 (HO.out.ch C1.out) ZO.out).mono ?_
  rintro e w2 ⟨b1, rfl, g1, hc⟩
  have C2 := Lib.hid (C1.out.same hc); have G1 := Lib.hid g1
  clear hc g1
  go_wp2_with fail
  refine (good_of Aa ca a w2 (HA.out.ch C2.out) ZA.out).mono ?_
  rintro e w3 ⟨b2, rfl, g2, hc⟩
  have C3 := Lib.hid (C2.out.same hc); have G2 := Lib.hid g2
  clear hc g2
  go_wp2_with fail
  refine (good_of Ab cb b w3 (HB.out.ch C3.out) ZB.out).mono ?_
  rintro e w4 ⟨b3, rfl, g3, hc⟩
  have C4 := Lib.hid (C3.out.same hc); have G3 := Lib.hid g3
  clear hc g3
  cases b1 with
  | false =>
    go_wp2_with fail
    go_ret
    exact ⟨rfl, C4.out⟩
  | true =>
    cases b2 with
    | false =>
      go_wp2_with fail
      go_ret
      exact ⟨rfl, C4.out⟩
    | true =>
      cases b3 with
      | false =>
        go_wp2_with fail
        go_ret
        exact ⟨rfl, C4.out⟩
      | true =>
        have K1 := Lib.hid (G1.out rfl); have K2 := Lib.hid (G2.out rfl); have K3 := Lib.hid (G3.out rfl)
        clear G1 G2 G3
        go_wp2_with fail
        refine (trees_any o a b Ao Aa Ab co ca cb w4 (HO.out.ch C4.out) (HA.out.ch C4.out) (HB.out.ch C4.out) K1.out.1 K2.out.1 K3.out.1 (by have := K1.out.2.1; omega) (by have := K2.out.2.1; omega) (by have := K3.out.2.1; omega) (szs_up K1.out.2.2 (by omega)) (szs_up K2.out.2.2 (by omega)) (szs_up K3.out.2.2 (by omega))).mono ?_
        rintro e w5 ⟨A5, c5, D5, d5, rfl, h5, k5, hc⟩
        have C5 := Lib.hid (C4.out.same hc); have R5 := Lib.hid h5; have S5 := Lib.hid k5
        clear hc h5 k5
        have hr := rtrees_of Ao Aa Ab co ca cb o a b w5 (HO.out.ch C5.out) (HA.out.ch C5.out) (HB.out.ch C5.out) (by have := K2.out.2.1; omega) (by have := K3.out.2.1; omega) (szs_up K1.out.2.2 (by omega)) (szs_up K2.out.2.2 (by omega)) (szs_up K3.out.2.2 (by omega)) K2.out.1 K3.out.1
        obtain ⟨r, hrr⟩ : ∃ r, treesL o a b = r := ⟨_, rfl⟩
        rw [hrr] at hr R5 S5 ⊢
        clear hrr
        obtain ⟨t1, t2⟩ := r
        simp only at hr R5 S5 ⊢
        go_wp2_with fail
        refine hr.mono ?_
        rintro e w6 ⟨vo, vd, rfl, h6, k6, hc⟩
        obtain ⟨A6, c6, rfl, r6⟩ := own_row h6
        obtain ⟨D6, d6, rfl, s6⟩ := El.Row.of_own k6
        have C6 := Lib.hid (C5.out.same hc); have R6 := Lib.hid r6; have S6 := Lib.hid s6; have R56 := Lib.hid (R5.out.ch hc); have S56 := Lib.hid (S5.out.ch hc)
        clear hc h6 k6 r6 s6 hr R5 S5
        go_wp2_with fail
        refine (same_yes A5 A6 c5 c6 t1 w6 R56.out R6.out).mono ?_
        rintro e w7 ⟨rfl, hc⟩
        have C7 := Lib.hid (C6.out.same hc); have S67 := Lib.hid (S6.out.ch hc); have S57 := Lib.hid (S56.out.ch hc)
        clear hc
        go_wp2_with fail
        refine (texts_yes D5 D6 d5 d6 t2 w7 S57.out S67.out).mono ?_
        rintro e w8 ⟨rfl, hc⟩
        have C8 := Lib.hid (C7.out.same hc)
        clear hc
        go_wp2_with fail
        go_ret
        exact ⟨rfl, C8.out⟩
end Go.Proofs.Ytekeiieefkgopaa.Td
