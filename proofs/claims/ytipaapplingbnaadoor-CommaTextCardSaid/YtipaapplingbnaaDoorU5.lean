/- Walks: CommaText. -/
import Derived.Test.YtipaapplingbnaaDoorPf
namespace Go.Proofs.YtipaapplingbnaaDoor
open Go.RowKit Go.Deep

theorem parse_parts {w w' : World} {l : List Cm} {s : List UInt8} {e : Ending} (h : ParseEnds w l s e w') : Below w.heap.size w w' ∧ ∃ A c, e = .returned (.tuple #[.slice A (parseV l s).length c, .int .i64 (parseE l s)]) ∧ RdI w' w'.heap.size A (parseV l s) := h
set_option maxRecDepth 100000 in
set_option maxHeartbeats 8000000 in
theorem text_law (w : World) (A A1 : Option Addr) (c c1 : Nat) (l : List Cm) (cs : List Int) (s : List UInt8) (hr : RdN w w.heap.size A l) (hs : ∀ x ∈ l, x.nm.length ≤ 9223372036854775807) (hll : l.length ≤ 9223372036854775807) (hrc : RdI w w.heap.size A1 cs) (hcl : cs.length ≤ 9223372036854775807) (hsl : s.length ≤ 140737488351232) (hT : Tab w) (hE : Errs w) :
    Calls Tryd.prog 5 #[.slice A l.length c, .slice A1 cs.length c1, str s] w fun e w' => e = .returned (.bool true) ∧ Below w.heap.size w w' := by
  have HHD := Lib.hid fun W (hb : Below w.heap.size w W) => head_any W (hT.below hb) (hE.below hb)
  have HTX := Lib.hid fun W (hb : Below w.heap.size w W) Ax (hx : RdI W W.heap.size Ax cs) => text_any W A Ax c c1 l cs (hr.up hb) hs hll hx (by omega) (hT.below hb)
  have HPS := Lib.hid fun W (hb : Below w.heap.size w W) => (parse_any W A c l s (hr.up hb) hs hll (by omega) (hT.below hb) (hE.below hb)).mono fun e w' h => parse_parts h
  have hsm := parse_tiny l s
  have HT2 := Lib.hid fun W (hb : Below w.heap.size w W) Ax cx (hx : RdI W W.heap.size Ax (parseV l s)) => text_any W A Ax c cx l (parseV l s) (hr.up hb) hs hll hx (by omega) (hT.below hb)
  have H0 := Lib.hid (Below.refl w.heap.size w)
  have rc := Lib.hid hrc
  have hts := text_tiny l cs
  by_cases he : textE l cs = 0
  · obtain ⟨p1, p2⟩ := text_well he
    have hc6 := text_len he
    have HPT := Lib.hid fun W (hb : Below w.heap.size w W) => (parse_any W A c l (textV l cs) (hr.up hb) hs hll (by omega) (hT.below hb) (hE.below hb)).mono fun e w' h => parse_parts h
    have HIN := Lib.hid fun W A B (c d : Nat) (h1 : RdI W W.heap.size A cs) (h2 : RdI W W.heap.size B cs) => (ints_any W A B c d cs cs h1 h2 (by omega)).mono fun e w' h => (show e = .returned (.bool true) ∧ Below W.heap.size W w' from by rw [decide_eq_true rfl] at h; exact h)
    rw [p1, p2] at HPT
    rw [he] at HTX
    by_cases hf : parseE l s = 0
    · obtain ⟨t1, t2⟩ := parse_well hf
      rw [hf] at HPS
      rw [t1, t2] at HT2
      have hss : (s == s) = true := beq_self_eq_true s
      generalize parseV l s = ds at *
      generalize textV l cs = t at *
      clear hr hrc hT hE hs hll hcl hsl he hf hc6 p1 p2 t1 t2 hts hsm
      go_enter Tryd.func5, Tryd.ntmps5
      have tk0 := Lib.hid trivial
      go_wp2_with (first
        | (have _t := tk0; go_at_call 8; have bp := Below.refl w.heap.size w; have hb := below_on H0.out bp; have rc' := rc.out.up bp; refine (HHD.out _ hb).mono ?_; rintro e v0w ⟨rfl, b'⟩; have b := below_on bp b'; have h0 := Lib.hid (below_on H0.out b); replace rc := Lib.hid (rc.out.up b); have tk1 := Lib.hid trivial; clear b b' bp hb tk0 rc')
        | (have _t := tk1; go_at_call 15; have bp := Below.refl v0w.heap.size v0w; have hb := below_on h0.out bp; have rc' := rc.out.up bp; refine (HTX.out _ hb _ rc').mono ?_; rintro e v1w ⟨rfl, b'⟩; have b := below_on bp b'; have h1 := Lib.hid (below_on h0.out b); replace rc := Lib.hid (rc.out.up b); have tk2 := Lib.hid trivial; clear b b' bp hb tk1 rc')
        | (have _t := tk2; go_at_call 16; have bp := Below.refl v1w.heap.size v1w; have hb := below_on h1.out bp; have rc' := rc.out.up bp; refine (HPT.out _ hb).mono ?_; rintro e v2w ⟨b', A3, c3, rfl, r3⟩; have b := below_on bp b'; have h2 := Lib.hid (below_on h1.out b); replace rc := Lib.hid (rc.out.up b); replace r3 := Lib.hid r3; have tk3 := Lib.hid trivial; clear b b' bp hb tk2 rc')
        | (have _t := tk3; go_at_call 11; have bp := Below.refl v2w.heap.size v2w; have hb := below_on h2.out bp; have rc' := rc.out.up bp; have r3' := r3.out.up bp; refine (HIN.out _ _ _ _ _ r3' rc').mono ?_; rintro e v3w ⟨rfl, b'⟩; have b := below_on bp b'; have h3 := Lib.hid (below_on h2.out b); replace rc := Lib.hid (rc.out.up b); replace r3 := Lib.hid (r3.out.up b); have tk4 := Lib.hid trivial; clear b b' bp hb tk3 rc' r3')
        | (have _t := tk4; go_at_call 16; have bp := Below.refl v3w.heap.size v3w; have hb := below_on h3.out bp; have rc' := rc.out.up bp; have r3' := r3.out.up bp; refine (HPS.out _ hb).mono ?_; rintro e v4w ⟨b', A4, c4, rfl, r4⟩; have b := below_on bp b'; have h4 := Lib.hid (below_on h3.out b); replace rc := Lib.hid (rc.out.up b); replace r3 := Lib.hid (r3.out.up b); replace r4 := Lib.hid r4; have tk5 := Lib.hid trivial; clear b b' bp hb tk4 rc' r3')
        | (have _t := tk5; go_at_call 15; have bp := Below.refl v4w.heap.size v4w; have hb := below_on h4.out bp; have rc' := rc.out.up bp; have r3' := r3.out.up bp; have r4' := r4.out.up bp; refine (HT2.out _ hb _ _ r4').mono ?_; rintro e v5w ⟨rfl, b'⟩; have b := below_on bp b'; have h5 := Lib.hid (below_on h4.out b); replace rc := Lib.hid (rc.out.up b); replace r3 := Lib.hid (r3.out.up b); replace r4 := Lib.hid (r4.out.up b); have tk6 := Lib.hid trivial; clear b b' bp hb tk5 rc' r3' r4'))
      go_ret
      exact ⟨rfl, h5.out⟩
    · have hfz : (parseE l s != 0) = true := by rw [bne_iff_ne]; exact hf
      have hne : (textV l cs == s) = false := by
        rw [beq_eq_false_iff_ne]
        rintro rfl
        exact hf p1
      have hne' : (textV l cs != s) = true := by
        rw [bne_iff_ne]
        rintro rfl
        exact hf p1
      generalize parseE l s = fe at *
      generalize parseV l s = ds at *
      generalize textV l cs = t at *
      clear hr hrc hT hE hs hll hcl hsl he hf hc6 p1 p2 hts hsm HT2
      go_enter Tryd.func5, Tryd.ntmps5
      have tk0 := Lib.hid trivial
      go_wp2_with (first
        | (have _t := tk0; go_at_call 8; have bp := Below.refl w.heap.size w; have hb := below_on H0.out bp; have rc' := rc.out.up bp; refine (HHD.out _ hb).mono ?_; rintro e v0w ⟨rfl, b'⟩; have b := below_on bp b'; have h0 := Lib.hid (below_on H0.out b); replace rc := Lib.hid (rc.out.up b); have tk1 := Lib.hid trivial; clear b b' bp hb tk0 rc')
        | (have _t := tk1; go_at_call 15; have bp := Below.refl v0w.heap.size v0w; have hb := below_on h0.out bp; have rc' := rc.out.up bp; refine (HTX.out _ hb _ rc').mono ?_; rintro e v1w ⟨rfl, b'⟩; have b := below_on bp b'; have h1 := Lib.hid (below_on h0.out b); replace rc := Lib.hid (rc.out.up b); have tk2 := Lib.hid trivial; clear b b' bp hb tk1 rc')
        | (have _t := tk2; go_at_call 16; have bp := Below.refl v1w.heap.size v1w; have hb := below_on h1.out bp; have rc' := rc.out.up bp; refine (HPT.out _ hb).mono ?_; rintro e v2w ⟨b', A3, c3, rfl, r3⟩; have b := below_on bp b'; have h2 := Lib.hid (below_on h1.out b); replace rc := Lib.hid (rc.out.up b); replace r3 := Lib.hid r3; have tk3 := Lib.hid trivial; clear b b' bp hb tk2 rc')
        | (have _t := tk3; go_at_call 11; have bp := Below.refl v2w.heap.size v2w; have hb := below_on h2.out bp; have rc' := rc.out.up bp; have r3' := r3.out.up bp; refine (HIN.out _ _ _ _ _ r3' rc').mono ?_; rintro e v3w ⟨rfl, b'⟩; have b := below_on bp b'; have h3 := Lib.hid (below_on h2.out b); replace rc := Lib.hid (rc.out.up b); replace r3 := Lib.hid (r3.out.up b); have tk4 := Lib.hid trivial; clear b b' bp hb tk3 rc' r3')
        | (have _t := tk4; go_at_call 16; have bp := Below.refl v3w.heap.size v3w; have hb := below_on h3.out bp; have rc' := rc.out.up bp; have r3' := r3.out.up bp; refine (HPS.out _ hb).mono ?_; rintro e v4w ⟨b', A4, c4, rfl, r4⟩; have b := below_on bp b'; have h4 := Lib.hid (below_on h3.out b); replace rc := Lib.hid (rc.out.up b); replace r3 := Lib.hid (r3.out.up b); replace r4 := Lib.hid r4; have tk5 := Lib.hid trivial; clear b b' bp hb tk4 rc' r3'))
      go_ret
      exact ⟨rfl, h4.out⟩
  · have hez : (textE l cs == 0) = false := by rw [beq_eq_false_iff_ne]; exact he
    have hez' : (textE l cs != 0) = true := by rw [bne_iff_ne]; exact he
    generalize textE l cs = ee at *
    by_cases hf : parseE l s = 0
    · obtain ⟨t1, t2⟩ := parse_well hf
      rw [hf] at HPS
      rw [t1, t2] at HT2
      have hss : (s == s) = true := beq_self_eq_true s
      generalize parseV l s = ds at *
      generalize textV l cs = t at *
      clear hr hrc hT hE hs hll hcl hsl he hf t1 t2 hts hsm
      go_enter Tryd.func5, Tryd.ntmps5
      have tk0 := Lib.hid trivial
      go_wp2_with (first
        | (have _t := tk0; go_at_call 8; have bp := Below.refl w.heap.size w; have hb := below_on H0.out bp; have rc' := rc.out.up bp; refine (HHD.out _ hb).mono ?_; rintro e v0w ⟨rfl, b'⟩; have b := below_on bp b'; have h0 := Lib.hid (below_on H0.out b); replace rc := Lib.hid (rc.out.up b); have tk1 := Lib.hid trivial; clear b b' bp hb tk0 rc')
        | (have _t := tk1; go_at_call 15; have bp := Below.refl v0w.heap.size v0w; have hb := below_on h0.out bp; have rc' := rc.out.up bp; refine (HTX.out _ hb _ rc').mono ?_; rintro e v1w ⟨rfl, b'⟩; have b := below_on bp b'; have h1 := Lib.hid (below_on h0.out b); replace rc := Lib.hid (rc.out.up b); have tk2 := Lib.hid trivial; clear b b' bp hb tk1 rc')
        | (have _t := tk2; go_at_call 16; have bp := Below.refl v1w.heap.size v1w; have hb := below_on h1.out bp; have rc' := rc.out.up bp; refine (HPS.out _ hb).mono ?_; rintro e v2w ⟨b', A4, c4, rfl, r4⟩; have b := below_on bp b'; have h2 := Lib.hid (below_on h1.out b); replace rc := Lib.hid (rc.out.up b); replace r4 := Lib.hid r4; have tk3 := Lib.hid trivial; clear b b' bp hb tk2 rc')
        | (have _t := tk3; go_at_call 15; have bp := Below.refl v2w.heap.size v2w; have hb := below_on h2.out bp; have rc' := rc.out.up bp; have r4' := r4.out.up bp; refine (HT2.out _ hb _ _ r4').mono ?_; rintro e v3w ⟨rfl, b'⟩; have b := below_on bp b'; have h3 := Lib.hid (below_on h2.out b); replace rc := Lib.hid (rc.out.up b); replace r4 := Lib.hid (r4.out.up b); have tk4 := Lib.hid trivial; clear b b' bp hb tk3 rc' r4'))
      go_ret
      exact ⟨rfl, h3.out⟩
    · have hfz : (parseE l s != 0) = true := by rw [bne_iff_ne]; exact hf
      generalize parseE l s = fe at *
      generalize parseV l s = ds at *
      generalize textV l cs = t at *
      clear hr hrc hT hE hs hll hcl hsl he hf hts hsm HT2
      go_enter Tryd.func5, Tryd.ntmps5
      have tk0 := Lib.hid trivial
      go_wp2_with (first
        | (have _t := tk0; go_at_call 8; have bp := Below.refl w.heap.size w; have hb := below_on H0.out bp; have rc' := rc.out.up bp; refine (HHD.out _ hb).mono ?_; rintro e v0w ⟨rfl, b'⟩; have b := below_on bp b'; have h0 := Lib.hid (below_on H0.out b); replace rc := Lib.hid (rc.out.up b); have tk1 := Lib.hid trivial; clear b b' bp hb tk0 rc')
        | (have _t := tk1; go_at_call 15; have bp := Below.refl v0w.heap.size v0w; have hb := below_on h0.out bp; have rc' := rc.out.up bp; refine (HTX.out _ hb _ rc').mono ?_; rintro e v1w ⟨rfl, b'⟩; have b := below_on bp b'; have h1 := Lib.hid (below_on h0.out b); replace rc := Lib.hid (rc.out.up b); have tk2 := Lib.hid trivial; clear b b' bp hb tk1 rc')
        | (have _t := tk2; go_at_call 16; have bp := Below.refl v1w.heap.size v1w; have hb := below_on h1.out bp; have rc' := rc.out.up bp; refine (HPS.out _ hb).mono ?_; rintro e v2w ⟨b', A4, c4, rfl, r4⟩; have b := below_on bp b'; have h2 := Lib.hid (below_on h1.out b); replace rc := Lib.hid (rc.out.up b); replace r4 := Lib.hid r4; have tk3 := Lib.hid trivial; clear b b' bp hb tk2 rc'))
      go_ret
      exact ⟨rfl, h2.out⟩

end Go.Proofs.YtipaapplingbnaaDoor
