/- yB25. -/
import Derived.Test.YtfphgelollhdhaaGreatW1
import Derived.Test.YtfphgelollhdhaaGreatW2
import Derived.Test.YtfphgelollhdhaaGreatW3
import Derived.Test.YtfphgelollhdhaaGreatW4
import Derived.Test.YtfphgelollhdhaaGreatyW5
import Derived.Test.YtfphgelollhdhaaGreatyW6
import Derived.Test.YtfphgelollhdhaaGreatyW7
import Derived.Test.YtfphgelollhdhaaGreatyW8
import Derived.Test.YtfphgelollhdhaaGreatyW9
import Derived.Test.YtfphgelollhdhaaGreatyW10
import Derived.Test.YtfphgelollhdhaaGreatyW11
import Derived.Test.YtfphgelollhdhaaGreatyW12
import Derived.Test.YtfphgelollhdhaaGreatyW13
import Derived.Test.YtfphgelollhdhaaGreatyW14
import Derived.Test.YtfphgelollhdhaaGreatyW15
import Derived.Test.YtfphgelollhdhaaGreatyW16
import Derived.Test.YtfphgelollhdhaaGreatyW17
import Derived.Test.YtfphgelollhdhaaGreatyW18
import Derived.Test.YtfphgelollhdhaaGreatyW19
import Derived.Test.YtfphgelollhdhaaGreatyW20
import Derived.Test.YtfphgelollhdhaaGreatyW21
import Derived.Test.YtfphgelollhdhaaGreatyW22
import Derived.Test.YtfphgelollhdhaaGreatyW23
import Derived.Test.YtfphgelollhdhaaGreatyW24
import Derived.Test.YtfphgelollhdhaaGreatyW25
import Derived.Test.YtfphgelollhdhaaGreatyW26
import Derived.Test.YtfphgelollhdhaaGreatyW27
set_option linter.unusedVariables false
set_option linter.unusedSimpArgs false
namespace Go.Proofs.YtfphgelollhdhaaGreat
open Go Go.RowKit
open Go.Proofs.YtfphgelollhdhaaGreat.Dict (St Bs bs_eq Wd findD NameIn)
open Go.Proofs.YtfphgelollhdhaaGreat.Mem (Mm storeD fetchD freeD)
open Gen (Nod Xts codN codL oneS sizS mayM wr wr_in wr_range okD okDs cntN cntL cnt_ab codN_eq codeS)
set_option maxRecDepth 100000
theorem loopAt_nil : loopAt [] = -1 := rfl
structure Laid (ws : List Bs) (x : Fo) : Prop where
 line : FnC Tryz.prog 7 [.agg (encFo ⟨v1, cp0⟩), St (lineT ws), .val (.int .i64 100)] (.tup [.agg (encFo x), .val (.int .i64 100), .val (.int .i64 0)])
 here : x.v.here = 1376 + 8 * ((codeS 1368 (parseP ws).1 1376).length : Int)
 mb : x.v.m.b.length ≤ 1000000
 cells : ∀ (i : Nat) (c : Int), (codeS 1368 (parseP ws).1 1376)[i]? = some c → fetchD x.v.m (1376 + 8 * (i : Int)) = (c, 0)
theorem genis_plain {ws : List Bs} (g : GoodWs ws) (hp : (parseP ws).2 = 0) : (okDs (parseP ws).1 = true ∧ cntL (parseP ws).1 ≤ 40) ∧ ((∃ x, Laid ws x) ∨ ∃ x, FnC Tryz.prog 7 [.agg (encFo ⟨v1, cp0⟩), St (lineT ws), .val (.int .i64 100)] (.tup [.agg (encFo x), .val (.int .i64 100), .val (.int .i64 (-22))])) := by
 obtain ⟨hmay, hcnt, hrg, htok⟩ := parse_ok hp
 have hn := g.n
 have hc40 : cntL (parseP ws).1 ≤ 40 := by omega
 have hok : okDs (parseP ws).1 = true := Gen.okDs_of (fun x hx => Gen.may_ok 16 x 0 (hmay x hx))
 refine ⟨⟨hok, hc40⟩, ?_⟩
 have hsz := Gen.sizS_bound (parseP ws).1
 have hcod := Gen.codL_len XC 1368 (parseP ws).1 (P8 172) 0 hok
 have hin := cod_in (self := 1368) (in64_s 1368 (by omega)) (cntL (parseP ws).1 + 1) (parseP ws).1 (Nat.lt_succ_self _) hrg (P8 172) 0 ⟨by unfold P8; omega, by unfold P8; omega⟩ z64
 have hcode : codeS 1368 (parseP ws).1 1376 = codL XC 1368 (parseP ws).1 (P8 172) 0 ++ [XC.ex] := by
  unfold codeS
  rw [xs_eq]
  rfl
 have hsim := sim_all 1368 (cntL (parseP ws).1 + 1) (parseP ws).1 (Nat.lt_succ_self _) 16 0 ⟨updC (lay f0 171 [256]) 1 (-1), 172, []⟩ (Nat.le_refl _) (Int.le_refl _) hmay (Nat.zero_le _) (fun h => absurd h (by decide)) (by show ((172 : Nat) : Int) + _ ≤ 512; omega) (by decide)
 obtain ⟨f1, hbeg, hci⟩ := begin_it
 have hil := htok.le
 have hci1 : CI f1 ⟨updC (lay f0 171 [256]) 1 (-1), 172, []⟩ (1000 + 63 * (itL 1368 (parseP ws).1).length + 100) := hci.le (by omega)
 have hcol := w_colon g hbeg
 rcases hsim with hF | ⟨s', xs, hC, hS⟩
 ·right
  obtain ⟨k, f', a', cs', hrun, hbad, hcf⟩ := chain_fail g (fu := 100) (by decide) hF f1 5 0 ws.length 1000 hci1 (line_at ws) htok
  exact ⟨_, line_bad ⟨v1, cp0⟩ f' (lineT ws) 100 (by decide) (k + 1) a' (.cons hcol hrun) hbad ((hcf.gd (by omega)).le (by omega))⟩
 left
 obtain ⟨k, f', a', hrun, hcf, hat⟩ := chain_run g (fu := 100) (by decide) hC f1 5 0 ws.length 1000 hci1 (line_at ws) htok
 have hxs : xs = [] := by
  rcases hS.ne with h | h
  ·exact h
  ·have : (0 : Int) ≤ loopAt [] := h
   rw [loopAt_nil] at this
   exact absurd this (by decide)
 have hsl : s'.l = [] := by
  rw [hS.l, hxs]
  rfl
 have hsh : s'.h = 172 + (codL XC 1368 (parseP ws).1 (P8 172) 0).length := hS.sg.ln 0
 obtain ⟨f2, he, h1, h2, h3⟩ := end_it (n := 1000) (hcf.le (by omega)) hsl (by omega)
 have hsemi := w_semi g (n := 1000) hcf hat he
 have hend := w_end g f2 hat
 have hrun2 : RunN (lineT ws) 100 (k + 1) f1 5 f2 (lineT ws).length := hrun.app (.cons hsemi (.nil _ _))
 refine ⟨freeF f2, line_ok ⟨v1, cp0⟩ f2 (lineT ws) 100 (by decide) (k + 1 + 1) _ _ (.cons hcol hrun2) hend, ?_, ?_, fun i c hc => ?_⟩
 ·rw [hcode, List.length_append, List.length_singleton]
  show f2.v.here = _
  rw [h1]
  omega
 ·show f2.v.m.b.length ≤ _
  rw [h2, cellsC_len]
  omega
 ·have hfb : (freeF f2).v.m.b = cellsC (updC (updC s'.f s'.h 32) 1 0) 512 := h2
  rw [hcode] at hc
  have hi := (List.getElem?_eq_some_iff.1 hc).1
  rw [List.length_append, List.length_singleton] at hi
  rw [show 1376 + 8 * (i : Int) = ((8 * (172 + i) : Nat) : Int) by omega]
  by_cases hlt : i < (codL XC 1368 (parseP ws).1 (P8 172) 0).length
  ·rw [List.getElem?_append_left hlt] at hc
   have hcd := hS.sg.cd 0 i c hc
   rw [hxs, if_neg (by simp)] at hcd
   have hcd : c = s'.f (172 + i) := hcd
   refine ft_n (N := 512) hfb (k := 172 + i) (by omega) ?_ (hin c (List.mem_of_getElem? hc))
   unfold updC
   rw [if_neg (by omega), if_neg (by omega), hcd]
  ·rw [List.getElem?_append_right (by omega)] at hc
   obtain rfl : i = (codL XC 1368 (parseP ws).1 (P8 172) 0).length := by omega
   rw [Nat.sub_self] at hc
   have hc : XC.ex = c := Option.some.inj hc
   have h32 : XC.ex = 32 := by kernel_rfl
   refine ft_n (N := 512) hfb (k := 172 + _) (by omega) ?_ (by rw [← hc, h32]; omega)
   unfold updC
   rw [if_neg (by omega), if_pos (by omega), ← hc, h32]
end Go.Proofs.YtfphgelollhdhaaGreat
