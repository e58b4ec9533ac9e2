/- A contract at a slice that reaches its block's end, out of two: where there is no room behind it, and where there is. -/
import Derived.Test.YtjfgnmicjhjofaaGreatAhX
set_option linter.unusedSimpArgs false
set_option linter.unusedVariables false
namespace Go.AH

theorem FC.room {P : Program} {f : FuncId} {sz n : Nat} {rest : List D} {rows R : Blk} (hn : rows.length = n) (hR : R.length = n + 1) (hp : pureB R = true)
    (hA : FC P f (.rx sz 0 n n n :: rest) [rows] (.rs sz 1 0 (n + 1) (n + 1)) [rows, R])
    (hB : ∀ rc, n + 1 ≤ rc → FC P f (.rx sz 0 n (n + 1) rc :: rest) [rows ++ [List.replicate sz .un]] (.rs sz 0 0 (n + 1) (n + 1)) [R]) :
    FC P f (.rs sz 0 0 n n :: rest) [rows] (.rs sz 0 0 (n + 1) (n + 1)) [R] := by
  refine ⟨hA.1, fun O E w vs hw hO hv => ?_⟩
  obtain ⟨v0, us, e0, r0, hL⟩ := hv.head
  cases r0 with
  | pur _ _ hp => cases hp
  | rs _ _ _ _ bi a cap' hE h0 h1 h2 h3 h4 =>
    obtain ⟨rr, c, el, g1, g2, g3, g4, g5, g6⟩ := hw.blk 0 bi hE
    have : rr = rows := by simpa [hget] using g1.symm
    subst this
    have hbn : bi.n = n := by omega
    have hcons : ∀ {E' : Env} {d : D}, RelE O E' w d (.slice (some a) n cap') → Fr All E w E' w → RelL O E' w (d :: rest) vs.toList := by
      intro E' d hd hf
      rw [e0]
      refine ⟨by simp [hL.1], fun i d' v' e1 e2 => ?_⟩
      cases i with
      | zero => simp at e1 e2; subst e1 e2; exact hd
      | succ i => exact (hL.2 i d' v' (by simpa using e1) (by simpa using e2)).mono hf
    rcases Nat.lt_or_ge n cap' with hlt | hge
    · -- there is room
      obtain ⟨o, rfl, ho, c1, el1, hc1, hle1⟩ := h4 (by omega)
      rw [g4] at hc1; cases hc1
      have hfit : (n + 1) * bi.sz ≤ c.size := Nat.le_trans (Nat.mul_le_mul_right _ (by omega)) hle1
      obtain ⟨k1, k2⟩ := hw.write (w1 := w) (b := 0) (bi := bi) hE (rows := rr ++ [List.replicate bi.sz .un]) (c := c) (c' := c) (el := el) g4 rfl (fun _ _ => rfl) g4 rfl rfl rfl rfl
        (by simp; omega) (fun r hr => by
          rw [List.mem_append] at hr
          rcases hr with hr | hr
          · exact g3 r hr
          · simp at hr; subst hr; simp) (by simp; rw [hn]; exact hfit) (fun i j r d hi hj => by
          by_cases hin : i < rr.length
          · rw [List.getElem?_append_left hin] at hi
            exact g6 i j r d hi hj
          · have hi0 := some_lt hi
            simp at hi0
            have ei : i = rr.length := by omega
            subst ei
            rw [List.getElem?_append_right (Nat.le_refl _)] at hi
            simp at hi; subst hi
            have hj0 := some_lt hj
            simp at hj0
            rw [List.getElem?_replicate, if_pos hj0] at hj
            cases hj
            have hlt2 : rr.length * bi.sz + j < c.size := by
              rw [Nat.add_mul, Nat.one_mul] at hfit
              rw [hn]; omega
            exact ⟨c[rr.length * bi.sz + j], Array.getElem?_eq_getElem hlt2, hw.sc 0 bi hE c el g4 _ _ (Array.getElem?_eq_getElem hlt2), .pur _ _ (.un _)⟩) (hw.sc 0 bi hE c el g4)
      have hlen : (rr ++ [List.replicate bi.sz D.un]).length = n + 1 := by simp [hn]
      rw [hlen] at k1 k2
      have hE1 : E.set 0 ⟨bi.blk, bi.sz, n + 1⟩ 0 = some ⟨bi.blk, bi.sz, n + 1⟩ := Env.set_self _ _ _
      have hrx : RelE O (E.set 0 ⟨bi.blk, bi.sz, n + 1⟩) w (.rx bi.sz 0 n (n + 1) cap') (.slice (some ⟨bi.blk, o, none⟩) n cap') :=
        .rx 0 n (n + 1) cap' ⟨bi.blk, bi.sz, n + 1⟩ _ hE1 h0 (Nat.le_refl _) (by omega) (by omega) (fun _ => ⟨o, rfl, ho, c, el, g4, hle1⟩)
      have hrun := (hB cap' (by omega)).2 O (E.set 0 ⟨bi.blk, bi.sz, n + 1⟩) w vs (by simpa [hset] using k1) hO (hcons hrx k2)
      refine hrun.mono ?_
      rintro e w' ⟨v, E', rfl, hr, hw', hf, hnew⟩
      refine ⟨v, E', rfl, hr, hw', ⟨⟨hf.fr.os, hf.fr.tape, hf.fr.output, hf.fr.size, fun k hk ho => ?_, fun b b1 hb hb1 => ?_, hf.fr.shape⟩, fun b bi' hb hb' => ?_⟩, hnew⟩
      · exact hf.fr.out k hk (k2.out k hk ho).2
      · simp only [List.length_cons, List.length_nil] at hb
        have : b = 0 := by omega
        subst this
        rw [hE] at hb1; cases hb1
        obtain ⟨b2, q1, q2, q3, _⟩ := hf.fr.keep 0 _ (by simp) hE1
        simp only at q2 q3
        exact ⟨b2, q1, q2, by omega, fun q => by omega⟩
      · simp only [List.length_cons, List.length_nil] at hb
        have : b = 0 := by omega
        subst this
        rcases hf.new 0 bi' (by simp) hb' with q | ⟨b1, q1, q2⟩
        · exact .inl q
        · rw [hE1] at q1; cases q1
          exact .inr ⟨bi, hE, q2⟩
    · -- there is none
      have hcap : cap' = n := by omega
      subst hcap
      have hrx : RelE O E w (.rx bi.sz 0 cap' cap' cap') (.slice (some a) cap' cap') :=
        .rx 0 cap' cap' cap' bi a hE h0 (by omega) (Nat.le_refl _) (Nat.le_refl _) (fun _ => h4 (by omega))
      have hrun := hA.2 O E w vs hw hO (hcons hrx (Fr.refl _ _ _))
      refine hrun.mono ?_
      rintro e w' ⟨v, E', rfl, hr, hw', hf, hnew⟩
      have hbisz : ∃ s, s = bi.sz := ⟨_, rfl⟩
      obtain ⟨s, hs⟩ := hbisz
      rw [← hs] at hr
      cases hr with
      | pur _ _ hp => cases hp
      | rs _ _ _ _ b1 a1 cap1 hE1 k0 k1 k2 k3 k4 =>
        obtain ⟨rr1, c1, el1, f1, f2, f3, f4, f5, f6⟩ := hw'.blk 1 b1 hE1
        have : rr1 = R := by simpa [hget] using f1.symm
        subst this
        obtain ⟨E2, hE2d⟩ : ∃ E2 : Env, ∀ b, E2 b = if b = 0 then E' 1 else none := ⟨fun b => if b = 0 then E' 1 else none, fun _ => rfl⟩
        have h20 : E2 0 = some b1 := by rw [hE2d, if_pos rfl, hE1]
        have hE2 : ∀ b bi', E2 b = some bi' → b = 0 ∧ bi' = b1 := by
          intro b bi' hb
          rw [hE2d] at hb
          split at hb
          · rename_i q; rw [hE1] at hb; exact ⟨q, (Option.some.inj hb).symm⟩
          · cases hb
        have hout : ∀ k, E'.Out k → E2.Out k := fun k hk b bi' hb => by
          obtain ⟨_, rfl⟩ := hE2 b bi' hb
          exact hk 1 _ hE1
        refine ⟨_, E2, rfl, (by rw [← hs]; exact .rs 0 0 (cap' + 1) (cap' + 1) b1 a1 cap1 h20 k0 k1 k2 k3 k4), ⟨fun b bi' hb => ?_, fun b rows2 hg => ?_, fun b b' x y hb hb' _ => ?_, fun b bi' hb c2 el2 hc2 => ?_⟩,
          ⟨⟨hf.fr.os, hf.fr.tape, hf.fr.output, hf.fr.size, fun k hk ho => ?_, fun b b2 hb hb2 => ?_, hf.fr.shape⟩, fun b bi' hb hb' => ?_⟩, fun b bi' hb hb' => ?_⟩
        · obtain ⟨rfl, rfl⟩ := hE2 b bi' hb
          refine ⟨rr1, c1, el1, by simp [hget], f2, f3, f4, f5, fun i j r d hi hj => ?_⟩
          obtain ⟨v, q1, q2, q3⟩ := f6 i j r d hi hj
          have hpd : d.isPur = true := by
            unfold pureB at hp
            rw [List.all_eq_true] at hp
            have := hp r (List.mem_of_getElem? hi)
            rw [List.all_eq_true] at this
            exact this d (List.mem_of_getElem? hj)
          exact ⟨v, q1, q2, .pur _ _ ((pur_of_rel q3 hpd).mono (Nat.le_refl _) (fun k _ hu => ⟨rfl, hu.1, hout k hu.2⟩))⟩
        · cases b with
          | zero => exact ⟨b1, h20⟩
          | succ b => simp [hget] at hg
        · rw [(hE2 b x hb).1, (hE2 b' y hb').1]
        · obtain ⟨rfl, rfl⟩ := hE2 b bi' hb
          exact hw'.sc 1 _ hE1 c2 el2 hc2
        · obtain ⟨q1, q2⟩ := hf.fr.out k hk ho
          exact ⟨q1, hout k q2⟩
        · simp only [List.length_cons, List.length_nil] at hb
          have : b = 0 := by omega
          subst this
          rw [hE] at hb2; cases hb2
          exact ⟨b1, h20, by omega, by omega, fun q => by omega⟩
        · obtain ⟨rfl, rfl⟩ := hE2 b bi' hb'
          exact .inl (hnew 1 _ (by simp) hE1)
        · simp only [List.length_cons, List.length_nil] at hb
          obtain ⟨rfl, rfl⟩ := hE2 b bi' hb'
          omega
end Go.AH
