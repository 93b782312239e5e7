/- Texts of one proof, joined, without their blanks: Rn, Re, Sw, Vs, Sim, Uf, Vp, Li, Clo, Ra, Bl, Ln, Px, Mn, Ag, As, Pn, Po2, Po3, Po4, Vc, Ry, Sd, Mp, Ov, Pl, Pw, Cv, Pc, CpI, Ex. No condition but what each statement names. -/
import Derived.Test.YtgppgjgcnpimiaaGreatY0
import Derived.Deep.DeepCutAuto
import Derived.Laws.EntriesVeiled
import Derived.Laws.CopyRow
import Derived.Laws.Cells
namespace Go.Proofs.YtgppgjgcnpimiaaGreat
open Go.RowKit
open Go.Lib (hid)
set_option linter.unusedVariables false
set_option linter.unusedSimpArgs false
def MadeHBl (w:World) (h:Hp) (b:Bool) (e:Ending) (w':World):Prop:=
 ∃ cv rvs rv,e=.returned (.tuple #[.agg #[cv,rv],.bool b])/\Owns w.heap.size w w' [.cells cv rvs h.cells,.ints rv h.roots]
theorem good_small {h:Hp}(g:Good h):∀ c∈h.cells,c.refs.length<=1048576:=fun c hm=>by
 have:=g.cell c hm
 rw[cellOk_iff]at this
 rcases this with k|k
 ·omega
 ·rw[k.2.2];simp
theorem mStep_yes {h:Hp}{o:Cmd}(g:Good h) (hc:cmdOk o=true) (hs:stepOk h o=true):mStep h o=mDo h o h.cells.length:=by simp[mStep,good_iff.2 g,hc,hs]
theorem mStep_no {h:Hp}{o:Cmd}(g:Good h) (hc:cmdOk o=true) (hs:stepOk h o=false):mStep h o=h:=by simp[mStep,good_iff.2 g,hc,hs]
set_option maxHeartbeats 3200000 in
set_option maxRecDepth 20000 in
theorem stepHeap_any (w:World) (B:Nat) (v:Value) (h:Hp) (hh:RdH w B v h) (o:Cmd) (g:Good h) (hc:cmdOk o=true):
  Calls Tryz.prog 62 #[v,cmdV o] w (MadeHBl w (mStep h o) (stepOk h o)):=by
 have hh':=hh.top
 obtain⟨D,m,d,D',m',d',rfl,hC,hR⟩:=hh.top
 obtain rfl:=hC.len
 have hl40:=g.len
 have hr4:h.roots.length<=4:=by have:=g.roots;omega
 obtain⟨op,a,b,c⟩:=o
 have H:=(((Owns.nil w).box [.slice D h.cells.length d,.slice D' m' d'] 29).box [.int .i64 op,.int .i64 a,.int .i64 b,.int .i64 c] 79).box [.slice none 0 0,.slice none 0 0] 29
 simp only[lnm]at H
 have HY:=hid (good_iff.2 g)
 have HC:=hid hc
 have GG:=hid g
 clear hc g
 obtain⟨a0,a1,-,-⟩:=H.box2 2 rfl
 obtain⟨b0,b1,b2,b3,-,-,-,-⟩:=box4 H 1 rfl
 go_enter Tryz.func62,Tryz.ntmps62
 go_wp2_with fail
 refine (specHeapValid_any _ _ _ h (hh'.below H.below)).mono ?_
 rintro e w1 ⟨rfl,hb⟩
 rw[HY.out]
 replace H:=H.call hb
 clear hb a0 a1 b0 b1 b2 b3
 obtain⟨a0,a1,-,-⟩:=H.box2 2 rfl
 obtain⟨b0,b1,b2,b3,-,-,-,-⟩:=box4 H 1 rfl
 go_wp2_with fail
 refine (specCommandValid_any ⟨op,a,b,c⟩ _).mono ?_
 rintro e w2 ⟨rfl,hb⟩
 rw[HC.out]
 replace H:=H.call hb
 clear hb a0 a1 b0 b1 b2 b3
 obtain⟨a0,a1,-,-⟩:=H.box2 2 rfl
 obtain⟨b0,b1,b2,b3,-,-,-,-⟩:=box4 H 1 rfl
 go_wp2_with fail
 refine (specPossible_any _ _ _ h (hh'.below H.below) ⟨op,a,b,c⟩).mono ?_
 rintro e w3 ⟨rfl,hb⟩
 rw[mPoss_yes HY.out HC.out]
 replace H:=H.call hb
 clear hb a0 a1 b0 b1 b2 b3
 obtain⟨a0,a1,-,-⟩:=H.box2 2 rfl
 obtain⟨b0,b1,b2,b3,-,-,-,-⟩:=box4 H 1 rfl
 obtain⟨y0,y1,y2,y3⟩:=H.box2 0 rfl
 have HN3:=hid (good_small GG.out)
 cases hp:possB h ⟨op,a,b,c⟩
 ·have hs:stepOk h ⟨op,a,b,c⟩=false:=by simp[stepOk,hp]
  have HF1:=hid hs
  have HF2:=hid (mStep_no GG.out HC.out hs)
  clear hs hp
  go_wp2_with fail
  refine (l7Copy_any _ _ _ h (hh'.below H.below) (by omega) (by omega) HN3.out).mono ?_
  rintro e w4 ⟨v1,rfl,ho,hb⟩
  obtain⟨cv,rvs,rv,rfl,K⟩:=H.madeH ho hb
  clear ho hb
  obtain⟨C,kC,rfl,-⟩:=K.formC 0 rfl
  obtain⟨R,kR,rfl,-⟩:=K.formI 1 rfl
  clear H a0 a1 b0 b1 b2 b3 y0 y1 y2 y3
  obtain⟨y0,y1,y2,y3⟩:=K.box2 2 rfl
  have HZ:=(K.putBox 2 rfl 0 (.slice C h.cells.length kC)).putBox 2 rfl 1 (.slice R h.roots.length kR)
  simp only[lnm]at HZ
  obtain⟨z0,z1,-,-⟩:=HZ.box2 2 rfl
  obtain⟨z2,-,-,-⟩:=(K.putBox 2 rfl 0 (.slice C h.cells.length kC)).box2 2 rfl
  have HS:Hid (MadeHBl w (mStep h ⟨op,a,b,c⟩) (stepOk h ⟨op,a,b,c⟩) (.returned (.tuple #[.agg #[.slice C h.cells.length kC,.slice R h.roots.length kR],.bool false])) _):=hid (by rw[HF1.out,HF2.out];exact⟨_,rvs,_,rfl,HZ.take 2⟩)
  clear K HZ
  go_wp2
  exact bodyPost_ret (by simp[results,Tryz.results62,go_sem,z0,z1,z2]) rfl HS.out
 have HP:=hid hp
 by_cases h1:op=1
 ·by_cases hl:h.cells.length=40
  ·have hs:stepOk h ⟨op,a,b,c⟩=false:=by simp[stepOk,h1,hl]
   have HF1:=hid hs
   have HF2:=hid (mStep_no GG.out HC.out hs)
   have k1:((h.cells.length:Int) == 40)=true:=by simp;omega
   have k3:(op == 1)=true:=by simp[h1]
   clear hs hp hl h1
   go_wp2_with fail
   refine (l7Copy_any _ _ _ h (hh'.below H.below) (by omega) (by omega) HN3.out).mono ?_
   rintro e w4 ⟨v1,rfl,ho,hb⟩
   obtain⟨cv,rvs,rv,rfl,K⟩:=H.madeH ho hb
   clear ho hb
   obtain⟨C,kC,rfl,-⟩:=K.formC 0 rfl
   obtain⟨R,kR,rfl,-⟩:=K.formI 1 rfl
   clear H a0 a1 b0 b1 b2 b3 y0 y1 y2 y3
   obtain⟨y0,y1,y2,y3⟩:=K.box2 2 rfl
   have HZ:=(K.putBox 2 rfl 0 (.slice C h.cells.length kC)).putBox 2 rfl 1 (.slice R h.roots.length kR)
   simp only[lnm]at HZ
   obtain⟨z0,z1,-,-⟩:=HZ.box2 2 rfl
   obtain⟨z2,-,-,-⟩:=(K.putBox 2 rfl 0 (.slice C h.cells.length kC)).box2 2 rfl
   have HS:Hid (MadeHBl w (mStep h ⟨op,a,b,c⟩) (stepOk h ⟨op,a,b,c⟩) (.returned (.tuple #[.agg #[.slice C h.cells.length kC,.slice R h.roots.length kR],.bool false])) _):=hid (by rw[HF1.out,HF2.out];exact⟨_,rvs,_,rfl,HZ.take 2⟩)
   clear K HZ
   go_wp2
   exact bodyPost_ret (by simp[results,Tryz.results62,go_sem,z0,z1,z2]) rfl HS.out
  ·have hs:stepOk h ⟨op,a,b,c⟩=true:=by unfold stepOk;rw[hp];simp[hl]
   have HF1:=hid hs
   have HF2:=hid (mStep_yes GG.out HC.out hs)
   have k1:((h.cells.length:Int) == 40)=false:=by simp;omega
   have k3:(op == 1)=true:=by simp[h1]
   clear hs hp hl h1
   go_wp2_with fail
   refine (l8Do_any _ _ _ h (hh'.below H.below) ⟨op,a,b,c⟩ GG.out HC.out HP.out).mono ?_
   rintro e w4 ⟨cv,rvs,rv,rfl,K⟩
   replace K:=H.merge K
   simp only[lca]at K
   obtain⟨T,hT⟩:∃ T,T=mDo h ⟨op,a,b,c⟩ h.cells.length:=⟨_,rfl⟩
   rw[<-hT]at K HF2
   clear hT
   obtain⟨C,kC,rfl,-⟩:=K.formC 0 rfl
   obtain⟨R,kR,rfl,-⟩:=K.formI 1 rfl
   clear H a0 a1 b0 b1 b2 b3 y0 y1 y2 y3
   obtain⟨y0,y1,y2,y3⟩:=K.box2 2 rfl
   have HZ:=(K.putBox 2 rfl 0 (.slice C T.cells.length kC)).putBox 2 rfl 1 (.slice R T.roots.length kR)
   simp only[lnm]at HZ
   obtain⟨z0,z1,-,-⟩:=HZ.box2 2 rfl
   obtain⟨z2,-,-,-⟩:=(K.putBox 2 rfl 0 (.slice C T.cells.length kC)).box2 2 rfl
   have HS:Hid (MadeHBl w (mStep h ⟨op,a,b,c⟩) (stepOk h ⟨op,a,b,c⟩) (.returned (.tuple #[.agg #[.slice C T.cells.length kC,.slice R T.roots.length kR],.bool true])) _):=hid (by rw[HF1.out,HF2.out];exact⟨_,rvs,_,rfl,HZ.take 2⟩)
   clear K HZ
   go_wp2
   exact bodyPost_ret (by simp[results,Tryz.results62,go_sem,z0,z1,z2]) rfl HS.out
 ·have hs:stepOk h ⟨op,a,b,c⟩=true:=by unfold stepOk;rw[hp];simp[h1]
  have HF1:=hid hs
  have HF2:=hid (mStep_yes GG.out HC.out hs)
  have k3:(op == 1)=false:=by simp[h1]
  clear hs hp
  go_wp2_with fail
  refine (l8Do_any _ _ _ h (hh'.below H.below) ⟨op,a,b,c⟩ GG.out HC.out HP.out).mono ?_
  rintro e w4 ⟨cv,rvs,rv,rfl,K⟩
  replace K:=H.merge K
  simp only[lca]at K
  obtain⟨T,hT⟩:∃ T,T=mDo h ⟨op,a,b,c⟩ h.cells.length:=⟨_,rfl⟩
  rw[<-hT]at K HF2
  clear hT
  obtain⟨C,kC,rfl,-⟩:=K.formC 0 rfl
  obtain⟨R,kR,rfl,-⟩:=K.formI 1 rfl
  clear H a0 a1 b0 b1 b2 b3 y0 y1 y2 y3
  obtain⟨y0,y1,y2,y3⟩:=K.box2 2 rfl
  have HZ:=(K.putBox 2 rfl 0 (.slice C T.cells.length kC)).putBox 2 rfl 1 (.slice R T.roots.length kR)
  simp only[lnm]at HZ
  obtain⟨z0,z1,-,-⟩:=HZ.box2 2 rfl
  obtain⟨z2,-,-,-⟩:=(K.putBox 2 rfl 0 (.slice C T.cells.length kC)).box2 2 rfl
  have HS:Hid (MadeHBl w (mStep h ⟨op,a,b,c⟩) (stepOk h ⟨op,a,b,c⟩) (.returned (.tuple #[.agg #[.slice C T.cells.length kC,.slice R T.roots.length kR],.bool true])) _):=hid (by rw[HF1.out,HF2.out];exact⟨_,rvs,_,rfl,HZ.take 2⟩)
  clear K HZ
  go_wp2
  exact bodyPost_ret (by simp[results,Tryz.results62,go_sem,z0,z1,z2]) rfl HS.out
theorem mRun_no {cs:List Cmd}(h:cmdsOk cs=false):mRun cs=⟨[],[]⟩:=by simp[mRun,h]
theorem mRun_yes {cs:List Cmd}(h:cmdsOk cs=true):mRun cs=runTo cs:=by simp[mRun,h]
theorem cmdsOk_all {cs:List Cmd}(h:cmdsOk cs=true):∀ o∈cs,cmdOk o=true:=by simp only[cmdsOk,Bool.and_eq_true,List.all_eq_true]at h;exact h.1
set_option maxHeartbeats 3200000 in
set_option maxRecDepth 20000 in
theorem specRunHeap_any (w:World) (B:Nat) (A:Option Addr) (n c:Nat) (cs:List Cmd) (hr:RdQ w B A n c cs):
  Calls Tryz.prog 33 #[.slice A n c] w (MadeHp w (mRun cs)):=by
 have hr:=hr.top
 obtain rfl:=hr.len
 have hm:=Nat.le_trans hr.cap hr.mx
 unfold maxLen at hm
 have H:=(Owns.nil w).box [.slice none 0 0,.slice none 0 0] 29
 go_enter Tryz.func33,Tryz.ntmps33
 go_wp2_with fail
 refine (specCommandsValid_any _ _ _ _ _ cs (hr.below H.below)).mono ?_
 rintro e w1 ⟨rfl,hb⟩
 replace H:=H.call hb
 clear hb
 obtain⟨y0,y1,y2,y3⟩:=H.box2 0 rfl
 cases hc:cmdsOk cs
 ·have HF:=hid (mRun_no hc)
  clear hc
  have HZ:=(((H.putBox 0 rfl 0 (.slice none 0 0)).putBox 0 rfl 1 (.slice none 0 0)).noInts).noCells
  simp only[lnm]at HZ
  obtain⟨z0,z1,-,-⟩:=HZ.box2 2 rfl
  have HS:Hid (MadeHp w (mRun cs) (.returned (.agg #[.slice none 0 0,.slice none 0 0])) _):=hid (by rw[HF.out];exact⟨_,[],_,rfl,HZ.take 2⟩)
  clear HZ H
  go_wp2
  exact bodyPost_ret (by simp[results,Tryz.results33,go_sem,z0,z1]) rfl HS.out
 have HF:=hid (mRun_yes hc)
 have HA:=hid (cmdsOk_all hc)
 clear hc
 go_wp2_with fail
 refine (specEmptyHeap_any _).mono ?_
 rintro e w2 ⟨cv,rvs,rv,rfl,K⟩
 replace K:=H.merge K
 simp only[lca]at K
 obtain⟨C,kC,rfl,-⟩:=K.formC 0 rfl
 obtain⟨R,kR,rfl,-⟩:=K.formI 1 rfl
 clear H y0 y1 y2 y3
 have H2:=K.box [.slice C emptyH.cells.length kC,.slice R emptyH.roots.length kR] 29
 clear K
 have H3:Owns w.heap.size w _ [.box w2.heap.size [.slice C (runTo (cs.take 0)).cells.length kC,.slice R (runTo (cs.take 0)).roots.length kR] 29,.cells (.slice C (runTo (cs.take 0)).cells.length kC) rvs (runTo (cs.take 0)).cells,.ints (.slice R (runTo (cs.take 0)).roots.length kR) (runTo (cs.take 0)).roots,.box w.heap.size [.slice none 0 0,.slice none 0 0] 29]:=H2
 clear H2
 go_wp2_with fail
 go_loopw [4] (fun i wr=>∃ (k:Nat) (C R:Option Addr) (kC kR:Nat) (rvs:List Value) (h:Hp),i=.int .i64 k/\k<=cs.length/\h=runTo (cs.take k)/\Owns w.heap.size w wr [.box w2.heap.size [.slice C h.cells.length kC,.slice R h.roots.length kR] 29,.cells (.slice C h.cells.length kC) rvs h.cells,.ints (.slice R h.roots.length kR) h.roots,.box w.heap.size [.slice none 0 0,.slice none 0 0] 29]) (fun i _=>cs.length - (intOf i).toNat)
 case atStart=>exact⟨0,C,R,kC,kR,rvs,_,rfl,Nat.zero_le _,rfl,H3⟩
 case round =>
  clear H3
  obtain⟨k,C,R,kC,kR,rvs,h,rfl,hk,hh,H⟩:=hrel
  obtain⟨x0,x1,x2,x3⟩:=H.box2 0 rfl
  by_cases hlt:k<cs.length
  ·obtain⟨b,o,p,rfl,hbb,hx,q1,q2,q3,q4⟩:=hr.at_ hlt
   have hp:cmdOk p=true:=HA.out p (List.mem_of_getElem? hx.out)
   have hg:Good h:=by rw[hh];exact runTo_good _ fun o ho=>HA.out o (List.mem_of_mem_take ho)
   have HE:=hid (show mStep h p=runTo (cs.take (k+1)) by rw[take_snoc' hx,runTo_snoc,hh])
   have GG:=hid hg
   have HP:=hid hp
   clear hp hg hh
   go_wp2_with fail
   have HX:=H.drew
   have H0:=hid H
   clear H x0 x1 x2 x3
   obtain⟨x0,x1,-,-⟩:=HX.box2 0 rfl
   have g1:=HX.ro q1 hbb
   have g2:=HX.ro q2 hbb
   have g3:=HX.ro q3 hbb
   have g4:=HX.ro q4 hbb
   refine wp_region_tree (fun w'=>(w'.cell? ⟨w2.heap.size,0,none⟩=some (.slice C h.cells.length kC)/\w'.cell? ⟨w2.heap.size,1,none⟩=some (.slice R h.roots.length kR))/\w'.cell? ⟨b,o+k*4,none⟩=some (.int .i64 p.op)/\w'.cell? ⟨b,o+k*4+1,none⟩=some (.int .i64 p.a)/\w'.cell? ⟨b,o+k*4+2,none⟩=some (.int .i64 p.b)/\w'.cell? ⟨b,o+k*4+3,none⟩=some (.int .i64 p.c)) 12 [] (.take 0 (.take 1 (.take 2 (.take 3 (.take 4 (.alt 5 (.take 6 (.take 7 (.take 8 (.alt 9 (.alt 10 (.take 11 (.done)) (.stop)) (.stop))))) (.alt 9 (.alt 5 (.take 6 (.take 7 (.take 8 (.alt 10 (.take 11 (.done)) (.stop))))) (.stop)) (.stop)))))))) (by kernel_rfl) (by kernel_rfl) (by kernel_rfl) (⟨⟨x0,x1⟩,g1,g2,g3,g4⟩) ?_
   simp only[fillT,lgz,Nat.reduceBEq]
   repeat first|(with_reducible apply po_take;(·(go_simp;done));(·(intro w' hS';(try dsimp only at hS');go_simp;try with_reducible rfl));simp only[lpa])|(with_reducible apply po_skip;(·(go_simp;done));simp only[lpa])
   with_reducible refine po_run ?_ (fun K hK=>?_) ?_
   ·(go_simp;done)
   ·
    go_simp
    refine (stepHeap_any _ _ _ h (HX.rdH 1 2 rfl rfl) p GG.out HP.out).mono ?_
    rintro e wa ⟨cv,rvs',rv,rfl,K⟩
    replace K:=HX.merge K
    simp only[lca]at K
    obtain⟨T,hT⟩:∃ T,T=mStep h p:=⟨_,rfl⟩
    rw[<-hT]at K HE
    clear hT HX
    have HX:=K
    clear K
    obtain⟨C',kC',rfl,-⟩:=HX.formC 0 rfl
    obtain⟨R',kR',rfl,-⟩:=HX.formI 1 rfl
    clear x0 x1 g1 g2 g3 g4
    obtain⟨x0,x1,-,-⟩:=HX.box2 2 rfl
    have g1:=HX.ro q1 hbb
    have g2:=HX.ro q2 hbb
    have g3:=HX.ro q3 hbb
    have g4:=HX.ro q4 hbb
    refine hK.out _ _ (.inr (⟨⟨x0,x1⟩,g1,g2,g3,g4⟩)) ?_
    clear hK K
    repeat first|(with_reducible apply po_take;(·(go_simp;done));(·(intro w' hS';(try dsimp only at hS');go_simp;try with_reducible rfl));simp only[lpa])|(with_reducible apply po_skip;(·(go_simp;done));simp only[lpa])
    with_reducible refine po_last ?_ (fun K hK=>?_)
    ·(go_simp;done)
    go_simp
    have HP9:=HX
    replace HX:=HX.box [.slice none 0 0,.slice none 0 0] 29
    try simp only[drew_size]at HX
    clear x0 x1 g1 g2 g3 g4
    obtain⟨x0,x1,-,-⟩:=HX.box2 (1+2*1) rfl
    have g1:=HX.ro q1 hbb
    have g2:=HX.ro q2 hbb
    have g3:=HX.ro q3 hbb
    have g4:=HX.ro q4 hbb
    refine hK.out _ _ (.inr (⟨⟨x0,x1⟩,g1,g2,g3,g4⟩)) ?_
    clear hK K
    with_reducible refine po_last ?_ (fun K hK=>?_)
    ·(go_simp;done)
    go_simp
    have HZ:=HP9.box [.slice C' T.cells.length kC',.slice R' T.roots.length kR'] 29
    have HY:=HZ.places [0,1,2,3,6] (by decide) (by simp);simp only[lfm]at HY
    clear x0 x1 g1 g2 g3 g4 HX HZ HP9
    obtain⟨x0,x1,-,-⟩:=HY.box2 3 rfl
    have g1:=HY.ro q1 hbb
    have g2:=HY.ro q2 hbb
    have g3:=HY.ro q3 hbb
    have g4:=HY.ro q4 hbb
    refine hK.out _ _ (.inr (⟨⟨x0,x1⟩,g1,g2,g3,g4⟩)) ?_
    clear hK K
    clear x0 x1 g1 g2 g3 g4
    repeat first|(with_reducible apply po_take;(·(go_simp;done));(·(intro w' hS';(try dsimp only at hS');go_simp;try with_reducible rfl));simp only[lpa])|(with_reducible apply po_skip;(·(go_simp;done));simp only[lpa])
    refine po_done ?_
    obtain⟨x0,x1,x2,x3⟩:=HY.box2 3 rfl
    obtain⟨n0,n1,-,-⟩:=HY.box2 0 rfl
    have H7:=(((HY.putBox 3 rfl 0 (.slice C' T.cells.length kC')).putBox 3 rfl 1 (.slice R' T.roots.length kR'))).places [3,1,2,4] (by decide) (by simp)
    simp only[lfm,lsz]at H7
    clear HY H0 q1 q2 q3 q4
    go_wp2_with fail
    go_roundw
    case rel=>exact⟨k+1,C',R',kC',kR',rvs',T,by go_num,by omega,HE.out,H7⟩
    case measure=>simp[intOf];omega
   with_reducible refine po_last ?_ (fun K hK=>?_)
   ·(go_simp;done)
   go_simp
   have HP9:=HX
   replace HX:=HX.box [.slice none 0 0,.slice none 0 0] 29
   try simp only[drew_size]at HX
   clear x0 x1 g1 g2 g3 g4
   obtain⟨x0,x1,-,-⟩:=HX.box2 (1+2*0) rfl
   have g1:=HX.ro q1 hbb
   have g2:=HX.ro q2 hbb
   have g3:=HX.ro q3 hbb
   have g4:=HX.ro q4 hbb
   refine hK.out _ _ (.inr (⟨⟨x0,x1⟩,g1,g2,g3,g4⟩)) ?_
   clear hK K
   with_reducible refine po_last ?_ (fun K hK=>?_)
   ·(go_simp;done)
   go_simp
   refine (stepHeap_any _ _ _ h (HX.rdH 2 3 rfl rfl) p GG.out HP.out).mono ?_
   rintro e wa ⟨cv,rvs',rv,rfl,K⟩
   replace K:=HX.merge K
   simp only[lca]at K
   obtain⟨T,hT⟩:∃ T,T=mStep h p:=⟨_,rfl⟩
   rw[<-hT]at K HE
   clear hT HX
   have HX:=K
   clear K
   obtain⟨C',kC',rfl,-⟩:=HX.formC 0 rfl
   obtain⟨R',kR',rfl,-⟩:=HX.formI 1 rfl
   clear x0 x1 g1 g2 g3 g4
   obtain⟨x0,x1,-,-⟩:=HX.box2 3 rfl
   have g1:=HX.ro q1 hbb
   have g2:=HX.ro q2 hbb
   have g3:=HX.ro q3 hbb
   have g4:=HX.ro q4 hbb
   refine hK.out _ _ (.inr (⟨⟨x0,x1⟩,g1,g2,g3,g4⟩)) ?_
   clear hK K
   repeat first|(with_reducible apply po_take;(·(go_simp;done));(·(intro w' hS';(try dsimp only at hS');go_simp;try with_reducible rfl));simp only[lpa])|(with_reducible apply po_skip;(·(go_simp;done));simp only[lpa])
   with_reducible refine po_last ?_ (fun K hK=>?_)
   ·(go_simp;done)
   obtain⟨e0,e1,e2,e3⟩:=HX.box2 2 rfl
   go_simp
   have HZ:=(HX.putBox 2 rfl 0 (.slice C' T.cells.length kC')).putBox 2 rfl 1 (.slice R' T.roots.length kR')
   have HY:=HZ.places [2,0,1,3,6] (by decide) (by simp);simp only[lfm,lsz]at HY
   clear x0 x1 g1 g2 g3 g4 HX HZ HP9
   obtain⟨x0,x1,-,-⟩:=HY.box2 3 rfl
   have g1:=HY.ro q1 hbb
   have g2:=HY.ro q2 hbb
   have g3:=HY.ro q3 hbb
   have g4:=HY.ro q4 hbb
   refine hK.out _ _ (.inr (⟨⟨x0,x1⟩,g1,g2,g3,g4⟩)) ?_
   clear hK K
   clear x0 x1 g1 g2 g3 g4
   repeat first|(with_reducible apply po_take;(·(go_simp;done));(·(intro w' hS';(try dsimp only at hS');go_simp;try with_reducible rfl));simp only[lpa])|(with_reducible apply po_skip;(·(go_simp;done));simp only[lpa])
   refine po_done ?_
   obtain⟨x0,x1,x2,x3⟩:=HY.box2 3 rfl
   obtain⟨n0,n1,-,-⟩:=HY.box2 0 rfl
   have H7:=(((HY.putBox 3 rfl 0 (.slice C' T.cells.length kC')).putBox 3 rfl 1 (.slice R' T.roots.length kR'))).places [3,1,2,4] (by decide) (by simp)
   simp only[lfm,lsz]at H7
   clear HY H0 q1 q2 q3 q4
   go_wp2_with fail
   go_roundw
   case rel=>exact⟨k+1,C',R',kC',kR',rvs',T,by go_num,by omega,HE.out,H7⟩
   case measure=>simp[intOf];omega
  ·have HE:=hid (show runTo cs=h by rw[hh,List.take_of_length_le (by omega)])
   clear hh
   obtain⟨y0,y1,y2,y3⟩:=H.box2 3 rfl
   have HZ:=(H.putBox 3 rfl 0 (.slice C h.cells.length kC)).putBox 3 rfl 1 (.slice R h.roots.length kR)
   simp only[lnm]at HZ
   obtain⟨z0,z1,-,-⟩:=HZ.box2 3 rfl
   obtain⟨z2,-,-,-⟩:=(H.putBox 3 rfl 0 (.slice C h.cells.length kC)).box2 3 rfl
   have HS:Hid (MadeHp w (mRun cs) (.returned (.agg #[.slice C h.cells.length kC,.slice R h.roots.length kR])) _):=hid (by rw[HF.out,HE.out];exact⟨_,rvs,_,rfl,HZ.order [1,2] (by decide) rfl⟩)
   clear H HZ
   go_wp2
   exact bodyPost_ret (by simp[results,Tryz.results33,go_sem,z0,z1,z2]) rfl HS.out
noncomputable def mReachable (h:Hp):List Bool:=if heapOk h then reachL h.cells h.roots else []
theorem mReachable_no {h:Hp}(h0:heapOk h=false):mReachable h=[]:=by simp[mReachable,h0]
theorem mReachable_yes {h:Hp}(h0:heapOk h=true):mReachable h=reachL h.cells h.roots:=by simp[mReachable,h0]
theorem specReachable_any (w:World) (B:Nat) (v:Value) (h:Hp) (hh:RdH w B v h):
  Calls Tryz.prog 123 #[v] w (MadeB w (mReachable h)):=by
 have hh':=hh.top
 obtain⟨D,m,d,D',m',d',rfl,hC,hR⟩:=hh.top
 have hb1:=below_alloc w (.cells #[.slice D m d,.slice D' m' d'] 29)
 go_enter Tryz.func123,Tryz.ntmps123
 go_wp2_with fail
 refine (specHeapValid_any _ _ _ h (hh'.below hb1)).mono ?_
 rintro e w1 ⟨rfl,hb⟩
 obtain⟨a0,a1,hbw,hz⟩:=box2 (hb.mono (by simp))
 cases hy:heapOk h
 ·have HF:=hid (mReachable_no hy)
  go_wp2
  go_ret
  rw[HF.out]
  exact (((Owns.nil w).call hbw).lit [] 4 zero_le_maxLen).toB 0 rfl
 ·have HY:=hid hy
  clear hy
  obtain⟨s1,s2⟩:=heapOk_small HY.out
  obtain⟨s3,s4⟩:=heapOk_leads HY.out
  have S:=hid (And.intro s3 s4)
  clear s3 s4
  go_wp2_with fail
  refine (l7Reach_any _ _ _ _ h _ _ _ h.roots (hh'.below hbw) (hR.below hbw) (by omega) S.out.1 S.out.2).mono ?_
  rintro e w2 ⟨v2,rfl,ho,hb2⟩
  have HB:=hbw.trans (hb2.mono hbw.size)
  have HO:=ho.wide hbw.size (Nat.le_refl _)
  clear a0 a1
  go_wp2
  go_ret
  rw[mReachable_yes HY.out]
  exact⟨_,rfl,HO,HB⟩
section
def wipeP (P:Nat->Bool) (cs:List Cel) (k:Nat):List Cel:=(List.range cs.length).map fun i=>if decide (i<k) && P i then noCel else cs.getD i noCel
def cntP (P:Nat->Bool) (k:Nat):Nat:=((List.range k).filter P).length
section
variable {P:Nat->Bool} {cs:List Cel} {k:Nat}
theorem wipeP_len (P:Nat->Bool) (cs:List Cel) (k:Nat):(wipeP P cs k).length=cs.length:=by simp[wipeP]
theorem wipeP_zero (P:Nat->Bool) (cs:List Cel):wipeP P cs 0=cs:=by
 apply List.ext_getElem (by simp[wipeP])
 intro i h1 h2
 simp[wipeP,List.getD_eq_getElem?_getD,List.getElem?_eq_getElem h2]
theorem wipeP_get (P:Nat->Bool) (cs:List Cel) (k i:Nat):(wipeP P cs k)[i]?=if i<cs.length then some (if decide (i<k) && P i then noCel else cs.getD i noCel) else none:=by
 unfold wipeP
 rw[List.getElem?_map]
 by_cases h:i<cs.length
 ·rw[if_pos h,List.getElem?_range h];rfl
 ·rw[if_neg h,List.getElem?_eq_none (by simp;omega)];rfl
theorem wipeP_at {l:Cel}(h:Hid (cs[k]?=some l)):(wipeP P cs k)[k]?=some l:=by
 obtain⟨hk,rfl⟩:=List.getElem?_eq_some_iff.1 h.out
 rw[wipeP_get,if_pos hk]
 simp[List.getD_eq_getElem?_getD,List.getElem?_eq_getElem hk]
theorem wipeP_no (h:P k=false):wipeP P cs (k+1)=wipeP P cs k:=by
 apply List.map_congr_left
 intro i _
 by_cases e:i=k
 ·subst e;simp[h]
 ·have:decide (i<k+1)=decide (i<k):=decide_eq_decide.2 (by omega)
  simp only[this]
theorem wipeP_yes (h:P k=true):wipeP P cs (k+1)=(wipeP P cs k).set k noCel:=by
 apply List.ext_getElem?
 intro i
 rw[List.getElem?_set,wipeP_get,wipeP_get,wipeP_len]
 by_cases e:k=i
 ·subst e
  by_cases hl:k<cs.length
  ·simp[h,hl]
  ·simp[hl]
 ·have:decide (i<k+1)=decide (i<k):=decide_eq_decide.2 (by omega)
  rw[if_neg e,this]
theorem cntP_no (h:P k=false):cntP P (k+1)=cntP P k:=by simp[cntP,List.range_succ,List.filter_append,h]
theorem cntP_yes (h:P k=true):cntP P (k+1)=cntP P k+1:=by simp[cntP,List.range_succ,List.filter_append,h]
theorem cntP_le (P:Nat->Bool) (k:Nat):cntP P k<=k:=by
 unfold cntP
 have:=List.length_filter_le P (List.range k)
 simpa using this
end
def atB (ds:List Bool) (i:Nat):Bool:=ds.getD i false
def mDrop (h:Hp) (ds:List Bool):Hp:=⟨wipeP (atB ds) h.cells h.cells.length,h.roots⟩
def deadL (ms:List Bool):List Bool:=ms.map (!·)
def lostS (h:Hp) (ms:List Bool) (i:Nat):Bool:=!atB ms i && usedN h.cells i
def sweepOk (h:Hp) (ms:List Bool):Bool:=heapOk h && decide (ms.length=h.cells.length) && heapOk (mDrop h (deadL ms))
def mSweepH (h:Hp) (ms:List Bool):Hp:=if sweepOk h ms then mDrop h (deadL ms) else ⟨[],[]⟩
def mSweepN (h:Hp) (ms:List Bool):Int:=if sweepOk h ms then (cntP (lostS h ms) h.cells.length:Nat) else -1
noncomputable def mCollect (h:Hp):Hp:=mSweepH h (mReachable h)
noncomputable def mCollectN (h:Hp):Int:=mSweepN h (mReachable h)
theorem mSweep_yes {h:Hp}{ms:List Bool}(hs:sweepOk h ms=true):mSweepH h ms=mDrop h (deadL ms)/\mSweepN h ms=(cntP (lostS h ms) h.cells.length:Nat):=by simp[mSweepH,mSweepN,hs]
theorem mSweep_no {h:Hp}{ms:List Bool}(hs:sweepOk h ms=false):mSweepH h ms=⟨[],[]⟩/\mSweepN h ms=-1:=by simp[mSweepH,mSweepN,hs]
theorem collect_good {h:Hp}(g:Good h):sweepOk h (mReachable h)=true:=by
 have hy:=good_iff.2 g
 unfold sweepOk
 rw[hy,mReachable_yes hy,reachL_length,decide_eq_true rfl]
 simp only[Bool.and_self,Bool.true_and]
 rw[good_iff]
 have hat:∀ i,i<h.cells.length->atB (deadL (reachL h.cells h.roots)) i=!reachB h.cells h.roots i:=fun i hi=>by
  unfold atB deadL
  rw[List.getD_eq_getElem?_getD,List.getElem?_map,reachL_at hi];rfl
 have hget:∀ i,i<h.cells.length->reachB h.cells h.roots i=true->(wipeP (atB (deadL (reachL h.cells h.roots))) h.cells h.cells.length)[i]?=h.cells[i]?:=fun i hi hr=>by
  rw[wipeP_get,if_pos hi,hat i hi,hr,List.getD_eq_getElem?_getD,List.getElem?_eq_getElem hi];simp
 have key:∀ r,leadsB h.cells r=true->(0<=r->Rch h.cells (usedN h.cells) h.roots r.toNat)->leadsB (mDrop h (deadL (reachL h.cells h.roots))).cells r=true:=fun r hr h1=>by
  rcases leadsB_iff.1 hr with e|⟨h0,hu⟩
  ·rw[e];exact leadsB_nil _
  ·rw[leadsB_iff]
   refine .inr ⟨h0,?_⟩
   have hl:=usedN_lt hu
   have hb:reachB h.cells h.roots r.toNat=true:=by simpa [reachB] using h1 h0
   rw[usedN_def,List.getD_eq_getElem?_getD]
   show ((wipeP _ _ _)[r.toNat]?.getD noCel).used=true
   rw[hget _ hl hb]
   rw[usedN_def,List.getD_eq_getElem?_getD]at hu
   exact hu
 refine⟨by simpa [mDrop,wipeP_len] using g.len,g.roots,fun c hc=>?_,fun r hr=>?_⟩
 ·obtain⟨i,hi⟩:=List.getElem?_of_mem hc
  have hi':(wipeP (atB (deadL (reachL h.cells h.roots))) h.cells h.cells.length)[i]?=some c:=hi
  rw[wipeP_get]at hi'
  split at hi'
  ·rename_i hl
   injection hi' with hi'
   by_cases hr:reachB h.cells h.roots i=true
   ·rw[hat i hl,hr]at hi'
    simp only[Bool.not_true,Bool.and_false,Bool.false_eq_true,if_false]at hi'
    have hc':h.cells[i]?=some c:=by rw[<-hi',List.getD_eq_getElem?_getD,List.getElem?_eq_getElem hl];rfl
    have hok:=g.cell c (List.mem_of_getElem? hc')
    rw[cellOk_iff]at hok⊢
    rcases hok with⟨k1,k2,k3⟩|hok
    ·refine .inl ⟨k1,fun r hm=>key r (k2 r hm) fun h0=>?_,k3⟩
     rcases leadsB_iff.1 (k2 r hm) with e|⟨-,hu⟩
     ·omega
     ·have hrc:Rch h.cells (usedN h.cells) h.roots i:=by simpa [reachB] using hr
      exact .step hrc hc' hm h0 hu
    ·exact .inr hok
   ·rw[hat i hl,Bool.eq_false_iff.2 hr]at hi'
    simp only[Bool.not_false,Bool.and_true,decide_eq_true hl,if_true]at hi'
    rw[<-hi'];rfl
  ·cases hi'
 ·refine key r (g.lead r hr) fun h0=>?_
  rcases leadsB_iff.1 (g.lead r hr) with e|⟨-,hu⟩
  ·omega
  ·exact .base hr h0 hu
section
variable {lo:Nat} {w0 w w':World} {L:List OB}
theorem run_pushOB (h:Owns lo w0 w L) (i:Nat) {v:Value}{xs:List Bool}(hX:L[i]?=some (.bools v xs)) {B:Nat}{A:Option Addr}{n c:Nat}{ys:List Bool}(hr:RdB w B A n c ys) (hb:xs.length+n<=1099511627776) (ty:TypeId):
  ∃ A' c' w',(Builtin.append_ #[62,62] ty #[v,.slice A n c]).run Tryz.prog w=.ok (.slice A' (xs++ys).length c') w'/\Owns lo w0 w' (L.set i (.bools (.slice A' (xs++ys).length c') (xs++ys))):=by
 obtain⟨i0,hi,hz0,hz1,hz2⟩:=info_parts Tryz.infoBool
 obtain⟨v',w',hrun,ho,hg,hat⟩:=run_pushV Tryz.underlying62 hi hz0 hz1 hz2 rfl (by omega) (h.own i hX) hr (mapB_oneCell ys) (by simpa using hb) h.le ty
 have hl:xs.length+n=(xs++ys).length:=by have:=RdB.le1 hr;have:=RdB.le2 hr;simp;omega
 rw[hl,<-List.map_append]at ho
 obtain⟨A',c',rfl,-⟩:=OwB.form ⟨ho,fun k e=>(ho.lt k e).2⟩
 exact⟨A',c',w',hrun,h.grow i hX ho hg hat⟩
theorem wpList_pushBO {ops:Array Oper}{rest:List Oper}{o:Oper}{a:Act}{Q:Exit->Act->World->Prop}(hgd:o.guard=none) (s x:Operand)
  (hop:o.op=.call { callee:=.builtin .append,args:=#[s,x],argTypes:=#[62,62] })
  (h:Owns lo w0 w L) (i:Nat) {v:Value} {xs:List Bool} (hX:L[i]?=some (.bools v xs)) (hs:a.eval s=v) {B:Nat} {A:Option Addr} {n c:Nat} {ys:List Bool} (hx:a.eval x=.slice A n c) (hr:RdB w B A n c ys) (hb:xs.length+n<=1099511627776)
  (hK:∀ A' c' w',Owns lo w0 w' (L.set i (.bools (.slice A' (xs++ys).length c') (xs++ys)))->wpList Tryz.prog ops Q rest (a.put o.dst (.slice A' (xs++ys).length c')) w'):wpList Tryz.prog ops Q (o::rest) a w:=
 wpList_plain hgd fun _ hK'=>by
  obtain⟨A',c',w',hrun,hO⟩:=run_pushOB h i hX hr hb o.type
  unfold Oper.wp execOp
  simp only[hop,resolve,invoke,builtin,Sem.run_bind,Sem.run_pure,Result.andThen_ok,List.map_toArray,List.map_cons,List.map_nil,hs,hx,hrun]
  exact hK' _ _ (hK A' c' w' hO)
theorem Owns.litB (h:Owns lo w0 w L) (xs:List Bool) (hm:xs.length<=maxLen):Owns lo w0 (w.alloc (.cells (xs.map Value.bool).toArray 4)) (.bools (.slice (some ⟨w.heap.size,0,none⟩) xs.length xs.length) xs::L):=by
 have:=h.lit (xs.map Value.bool) 4 (by simpa using hm)
 simpa using this
end
set_option maxHeartbeats 1600000 in
set_option maxRecDepth 20000 in
theorem l11Drop_any (w:World) (B B':Nat) (v:Value) (h:Hp) (A:Option Addr) (n c:Nat) (ds:List Bool) (hh:RdH w B v h) (hr:RdB w B' A n c ds) (hn:n=h.cells.length) (h1:h.cells.length<=1048576) (h2:h.roots.length<=1048576) (h3:∀ c∈h.cells,c.refs.length<=1048576):
  Calls Tryz.prog 98 #[v,.slice A n c] w (MadeHp w (mDrop h ds)):=by
 have hh':=hh.top
 have hr:=hr.top
 subst hn
 have hm:=Nat.le_trans hr.cap hr.mx
 unfold maxLen at hm
 obtain⟨D,m,d,D',m',d',rfl,hC,hR⟩:=hh.top
 obtain rfl:=hC.len
 obtain rfl:m'=h.roots.length:=by have:=RdI.le1 hR;have:=RdI.le2 hR;omega
 have H:=((Owns.nil w).box [.slice D h.cells.length d,.slice D' h.roots.length d'] 29).box [.slice none 0 0,.slice none 0 0] 29
 simp only[lnm]at H
 obtain⟨a0,a1,-,-⟩:=H.box2 1 rfl
 have HN3:=hid h3
 clear h3
 go_enter Tryz.func98,Tryz.ntmps98
 go_wp2_with fail
 refine (l7Copy_any _ _ _ h (hh'.below H.below) h1 h2 HN3.out).mono ?_
 rintro e w1 ⟨v1,rfl,ho,hb⟩
 obtain⟨cv,rvs,rv,rfl,K⟩:=H.madeH ho hb
 obtain⟨C,kC,rfl,-⟩:=K.formC 0 rfl
 obtain⟨R,kR,rfl,-⟩:=K.formI 1 rfl
 clear H ho hb a0 a1
 have H2:=K.box [.slice C h.cells.length kC,.slice R h.roots.length kR] 29
 clear K
 have H3:=H2.take 4
 clear H2
 go_wp2_with fail
 go_loopw [6] (fun i wr=>∃ (k:Nat) (rvs:List Value),i=.int .i64 k/\k<=h.cells.length/\Owns w.heap.size w wr [.box w1.heap.size [.slice C h.cells.length kC,.slice R h.roots.length kR] 29,.cells (.slice C h.cells.length kC) rvs (wipeP (atB ds) h.cells k),.ints (.slice R h.roots.length kR) h.roots,.box (w.heap.size+1) [.slice none 0 0,.slice none 0 0] 29]) (fun i _=>h.cells.length - (intOf i).toNat)
 case atStart=>exact⟨0,rvs,rfl,Nat.zero_le _,by rw[wipeP_zero];exact H3⟩
 case round =>
  clear H3
  obtain⟨k,rvs,rfl,hk,H⟩:=hrel
  obtain⟨x0,x1,-,-⟩:=H.box2 0 rfl
  by_cases hlt:k<h.cells.length
  ·obtain⟨b,o,x,rfl,hbb,hx,q1⟩:=RdB.at_ hr hlt
   have q2:=H.ro q1 hbb
   obtain⟨l,hl⟩:∃ l,Hid (h.cells[k]?=some l):=⟨_,hid (List.getElem?_eq_getElem hlt)⟩
   have hP:atB ds k=x:=getD_of hx
   cases x
   ·have HE:=hid (wipeP_no (cs:=h.cells) hP)
    clear hP q1
    go_wp2_with fail
    go_roundw
    case rel=>exact⟨k+1,rvs,by go_num,by omega,by rw[HE.out];exact H⟩
    case measure=>simp[intOf];omega
   ·have HE:=hid (wipeP_yes (cs:=h.cells) hP)
    clear hP q1
    obtain⟨gC,cC,A2,c2,eC,-,y0,y1,y2,z0,z1,z2,-,-⟩:=H.cellW 1 rfl (hid (wipeP_at (P:=atB ds) hl))
    rw[wipeP_len]at eC
    simp only[Value.slice.injEq]at eC
    obtain⟨rfl,-,rfl⟩:=eC
    have H5:=H.wipe 1 rfl (wipeP_len _ _ _).symm k (by rw[wipeP_len];exact hlt)
    simp only[lsz]at H5
    rw[<-HE.out]at H5
    clear H HE
    go_wp2_with fail
    go_roundw
    case rel=>exact⟨k+1,_,by go_num,by omega,H5⟩
    case measure=>simp[intOf];omega
  ·obtain rfl:k=h.cells.length:=by omega
   have HE:Hid (wipeP (atB ds) h.cells h.cells.length=(mDrop h ds).cells):=hid rfl
   have HE2:Hid (h.roots=(mDrop h ds).roots):=hid rfl
   obtain⟨y0,y1,y2,y3⟩:=H.box2 3 rfl
   have HZ:=(H.putBox 3 rfl 0 (.slice C h.cells.length kC)).putBox 3 rfl 1 (.slice R h.roots.length kR)
   simp only[lnm]at HZ
   obtain⟨z0,z1,-,-⟩:=HZ.box2 3 rfl
   obtain⟨z2,-,-,-⟩:=(H.putBox 3 rfl 0 (.slice C h.cells.length kC)).box2 3 rfl
   have HS:Hid (MadeHp w (mDrop h ds) (.returned (.agg #[.slice C h.cells.length kC,.slice R h.roots.length kR])) _):=hid ⟨_,rvs,_,rfl,HZ.order [1,2] (by decide) rfl⟩
   clear H HZ HE HE2
   go_wp2
   exact bodyPost_ret (by simp[results,Tryz.results98,go_sem,z0,z1,z2]) rfl HS.out
def MadeHN (w:World) (h:Hp) (n:Int) (e:Ending) (w':World):Prop:=
 ∃ cv rvs rv,e=.returned (.tuple #[.agg #[cv,rv],.int .i64 n])/\Owns w.heap.size w w' [.cells cv rvs h.cells,.ints rv h.roots]
theorem rdB_new' (w:World) (x:Bool):RdB (w.alloc (.cells #[.bool x] 4)) (w.alloc (.cells #[.bool x] 4)).heap.size (some ⟨w.heap.size,0,none⟩) 1 1 [x]:=rdB_one (heap1 w _) (Nat.le_refl _) one_le_maxLen
theorem deadL_snoc {ms:List Bool}{k:Nat}{x:Bool}(h:Hid (ms[k]?=some x)):deadL (ms.take (k+1))=deadL (ms.take k)++[!x]:=by
 unfold deadL;rw[take_snoc' h,List.map_append];rfl
theorem lostB_at {h:Hp}{ms:List Bool}{k:Nat}{x:Bool}{l:Cel}(hx:Hid (ms[k]?=some x)) (hl:Hid (h.cells[k]?=some l)):lostS h ms k=(!x && l.used):=by
 unfold lostS atB usedN;rw[getD_of hx,getD_of hl]
set_option maxHeartbeats 3200000 in
set_option maxRecDepth 20000 in
theorem specSweepCells_any (w:World) (B B':Nat) (v:Value) (h:Hp) (A:Option Addr) (n c:Nat) (ms:List Bool) (hh:RdH w B v h) (hr:RdB w B' A n c ms):
  Calls Tryz.prog 122 #[v,.slice A n c] w (MadeHN w (mSweepH h ms) (mSweepN h ms)):=by
 have hh':=hh.top
 have hr:=hr.top
 obtain rfl:n=ms.length:=by have:=RdB.le1 hr;have:=RdB.le2 hr;omega
 have hm:=Nat.le_trans hr.cap hr.mx
 unfold maxLen at hm
 obtain⟨D,m,d,D',m',d',rfl,hC,hR⟩:=hh.top
 obtain rfl:=hC.len
 obtain rfl:m'=h.roots.length:=by have:=RdI.le1 hR;have:=RdI.le2 hR;omega
 have H:=((Owns.nil w).box [.slice D h.cells.length d,.slice D' h.roots.length d'] 29).box [.slice none 0 0,.slice none 0 0] 29
 simp only[lnm]at H
 obtain⟨a0,a1,-,-⟩:=H.box2 1 rfl
 go_enter Tryz.func122,Tryz.ntmps122
 go_wp2_with fail
 refine (specHeapValid_any _ _ _ h (hh'.below H.below)).mono ?_
 rintro e w1 ⟨rfl,hb⟩
 replace H:=H.call hb
 clear hb a0 a1
 obtain⟨a0,a1,-,-⟩:=H.box2 1 rfl
 obtain⟨y0,y1,y2,y3⟩:=H.box2 0 rfl
 cases hy:heapOk h
 ·have hs:sweepOk h ms=false:=by simp[sweepOk,hy]
  have HF:=hid (mSweep_no hs)
  clear hy hs
  have HZ:=(((H.putBox 0 rfl 0 (.slice none 0 0)).putBox 0 rfl 1 (.slice none 0 0)).noInts).noCells
  simp only[lnm]at HZ
  obtain⟨z0,z1,-,-⟩:=HZ.box2 2 rfl
  have HS:Hid (MadeHN w (mSweepH h ms) (mSweepN h ms) (.returned (.tuple #[.agg #[.slice none 0 0,.slice none 0 0],.int .i64 (-1)])) _):=hid (by rw[HF.out.1,HF.out.2];exact⟨_,[],_,rfl,HZ.take 2⟩)
  clear H HZ
  go_wp2
  exact bodyPost_ret (by simp[results,Tryz.results122,go_sem,z0,z1]) rfl HS.out
 by_cases hl:ms.length=h.cells.length
 rotate_left
 ·have hs:sweepOk h ms=false:=by simp[sweepOk,hl]
  have HF:=hid (mSweep_no hs)
  have k1:((ms.length:Int) != (h.cells.length:Int))=true:=by simp;omega
  clear hy hs hl
  have HZ:=(((H.putBox 0 rfl 0 (.slice none 0 0)).putBox 0 rfl 1 (.slice none 0 0)).noInts).noCells
  simp only[lnm]at HZ
  obtain⟨z0,z1,-,-⟩:=HZ.box2 2 rfl
  have HS:Hid (MadeHN w (mSweepH h ms) (mSweepN h ms) (.returned (.tuple #[.agg #[.slice none 0 0,.slice none 0 0],.int .i64 (-1)])) _):=hid (by rw[HF.out.1,HF.out.2];exact⟨_,[],_,rfl,HZ.take 2⟩)
  clear H HZ
  go_wp2
  exact bodyPost_ret (by simp[results,Tryz.results122,go_sem,z0,z1]) rfl HS.out
 have g:=good_iff.1 hy
 have hl40:=g.len
 have hr4:h.roots.length<=4:=by have:=g.roots;omega
 have HN3:=hid (good_small g)
 have HOK:=hid (show sweepOk h ms=heapOk (mDrop h (deadL ms)) by simp[sweepOk,hy,hl])
 have k1:((ms.length:Int) != (h.cells.length:Int))=false:=by simp;omega
 have HL:=hid hl
 have hle1:ms.length<=h.cells.length:=by omega
 have hle2:h.cells.length<=ms.length:=by omega
 clear hy g hl
 have H2:=H.litB [] zero_le_maxLen
 simp only[List.map_nil,List.length_nil]at H2
 go_wp2_with fail
 clear H a0 a1 y0 y1 y2 y3
 go_loopw [6,7,8] (fun v6 v7 i wr=>∃ (v:Value) (k:Nat),v6=v/\i=.int .i64 k/\k<=ms.length/\v7=.int .i64 (cntP (lostS h ms) k:Nat)/\Owns w.heap.size w wr [.bools v (deadL (ms.take k)),.box (w.heap.size+1) [.slice none 0 0,.slice none 0 0] 29,.box w.heap.size [.slice D h.cells.length d,.slice D' h.roots.length d'] 29]) (fun _ _ i _=>ms.length - (intOf i).toNat)
 case atStart=>exact⟨_,0,rfl,rfl,Nat.zero_le _,rfl,H2⟩
 case round =>
  clear H2
  obtain⟨v,k,hv,rfl,hk,rfl,H⟩:=hrel
  obtain rfl:=hv.symm
  obtain⟨a0,a1,-,-⟩:=H.box2 2 rfl
  have hcl:=cntP_le (lostS h ms) k
  by_cases hlt:k<ms.length
  ·obtain⟨b,o,x,rfl,hbb,hx,q1⟩:=RdB.at_ hr hlt
   obtain⟨b2,o2,l,A2,n2,c2,rfl,hbb2,hxl,u1,-,-,-⟩:=hC.at_ (show k<h.cells.length by omega)
   have q2:=H.ro q1 hbb
   have HD:=hid (deadL_snoc hx)
   have hlo:=lostB_at hx hxl
   have hdl:(deadL (ms.take k)).length=k:=by simp[deadL];omega
   have HDL:=hid hdl
   clear hdl
   generalize l.used=u at *
   cases x
   ·cases u
    ·have HC:=hid (cntP_no (show lostS h ms k=false from hlo))
     clear hlo
     have H3:=H.litB [true] one_le_maxLen
     simp only[lml]at H3
     go_wp2_with (at_builtin;go_loud (refine wpList_pushBO rfl (.tmp 29) (.tmp 35) rfl H3 1 rfl rfl rfl (rdB_new' _ _) (by rw[HDL.out];simp;omega) ?_;intro A3 k3 w3 H4;simp only[lsz]at H4;obtain⟨e0,e1,-,-⟩:=H4.box2 3 rfl;have q3:=H4.ro q1 hbb;have u3:=H4.ro u1 hbb2))
     have H5:=H4.erase 0
     simp only[lnm]at H5
     go_roundw
     case rel=>exact⟨_,k+1,rfl,by go_num,by omega,by rw[HC.out],by rw[HD.out];simpa using H5⟩
     case measure=>simp[intOf];omega
    ·have HC:=hid (cntP_yes (show lostS h ms k=true from hlo))
     clear hlo
     have H3:=H.litB [true] one_le_maxLen
     simp only[lml]at H3
     go_wp2_with (at_builtin;go_loud (refine wpList_pushBO rfl (.tmp 29) (.tmp 35) rfl H3 1 rfl rfl rfl (rdB_new' _ _) (by rw[HDL.out];simp;omega) ?_;intro A3 k3 w3 H4;simp only[lsz]at H4;obtain⟨e0,e1,-,-⟩:=H4.box2 3 rfl;have q3:=H4.ro q1 hbb;have u3:=H4.ro u1 hbb2))
     have H5:=H4.erase 0
     simp only[lnm]at H5
     go_roundw
     case rel=>exact⟨_,k+1,rfl,by go_num,by omega,by rw[HC.out];go_num,by rw[HD.out];simpa using H5⟩
     case measure=>simp[intOf];omega
   ·have HC:=hid (cntP_no (show lostS h ms k=false from hlo))
    clear hlo
    have H3:=H.litB [false] one_le_maxLen
    simp only[lml]at H3
    go_wp2_with (at_builtin;go_loud (refine wpList_pushBO rfl (.tmp 29) (.tmp 35) rfl H3 1 rfl rfl rfl (rdB_new' _ _) (by rw[HDL.out];simp;omega) ?_;intro A3 k3 w3 H4;simp only[lsz]at H4;obtain⟨e0,e1,-,-⟩:=H4.box2 3 rfl;have q3:=H4.ro q1 hbb;have u3:=H4.ro u1 hbb2))
    have H5:=H4.erase 0
    simp only[lnm]at H5
    go_roundw
    case rel=>exact⟨_,k+1,rfl,by go_num,by omega,by rw[HC.out],by rw[HD.out];simpa using H5⟩
    case measure=>simp[intOf];omega
  ·obtain rfl:k=ms.length:=by omega
   rw[List.take_length]at H
   have HK:Hid (cntP (lostS h ms) ms.length=cntP (lostS h ms) h.cells.length):=hid (by rw[HL.out])
   obtain⟨V,kV,rfl,rV⟩:=H.formB 0 rfl
   have hdl:(deadL ms).length=h.cells.length:=by simp[deadL];omega
   have HDL:=hid hdl
   clear hdl
   generalize hds:deadL ms=ds at *
   have HDS:=hid hds
   clear hds
   go_wp2_with fail
   refine (l11Drop_any _ _ _ _ h _ _ _ ds (hh'.below H.below) rV HDL.out (by omega) (by omega) HN3.out).mono ?_
   rintro e w5 ⟨cv,rvs,rv,rfl,K⟩
   replace K:=H.merge K
   simp only[lca]at K
   obtain⟨T,hT⟩:∃ T,T=mDrop h ds:=⟨_,rfl⟩
   rw[<-hT]at K
   have HT:=hid hT
   clear hT H a0 a1
   obtain⟨C,kC,rfl,-⟩:=K.formC 0 rfl
   obtain⟨R,kR,rfl,-⟩:=K.formI 1 rfl
   have H6:=K.box [.slice C T.cells.length kC,.slice R T.roots.length kR] 29
   clear K
   obtain⟨x0,x1,-,-⟩:=H6.box2 0 rfl
   go_wp2_with fail
   refine (specHeapValid_any _ _ _ T (H6.rdH 1 2 rfl rfl)).mono ?_
   rintro e w6 ⟨rfl,hb⟩
   replace H6:=H6.call hb
   clear hb x0 x1
   obtain⟨x0,x1,-,-⟩:=H6.box2 0 rfl
   obtain⟨y0,y1,y2,y3⟩:=H6.box2 4 rfl
   cases hy:heapOk T
   ·have HF:=hid (mSweep_no (h:=h) (ms:=ms) (by rw[HOK.out,<-HT.out,hy]))
    clear hy
    have HZ:=(((H6.putBox 4 rfl 0 (.slice none 0 0)).putBox 4 rfl 1 (.slice none 0 0)).noInts).noCells
    simp only[lnm]at HZ
    obtain⟨z0,z1,-,-⟩:=HZ.box2 6 rfl
    have HS:Hid (MadeHN w (mSweepH h ms) (mSweepN h ms) (.returned (.tuple #[.agg #[.slice none 0 0,.slice none 0 0],.int .i64 (-1)])) _):=hid (by rw[HF.out.1,HF.out.2];exact⟨_,[],_,rfl,HZ.take 2⟩)
    clear H6 HZ
    go_wp2
    exact bodyPost_ret (by simp[results,Tryz.results122,go_sem,z0,z1]) rfl HS.out
   ·have HF:=hid (mSweep_yes (h:=h) (ms:=ms) (by rw[HOK.out,<-HT.out,hy]))
    clear hy
    have HZ:=(H6.putBox 4 rfl 0 (.slice C T.cells.length kC)).putBox 4 rfl 1 (.slice R T.roots.length kR)
    simp only[lnm]at HZ
    obtain⟨z0,z1,-,-⟩:=HZ.box2 4 rfl
    obtain⟨z2,-,-,-⟩:=(H6.putBox 4 rfl 0 (.slice C T.cells.length kC)).box2 4 rfl
    have HS:Hid (MadeHN w (mSweepH h ms) (mSweepN h ms) (.returned (.tuple #[.agg #[.slice C T.cells.length kC,.slice R T.roots.length kR],.int .i64 (cntP (lostS h ms) ms.length:Nat)])) _):=hid (by rw[HF.out.1,HF.out.2,HK.out,HDS.out,<-HT.out];exact⟨_,rvs,_,rfl,HZ.order [1,2] (by decide) rfl⟩)
    clear H6 HZ
    go_wp2
    exact bodyPost_ret (by simp[results,Tryz.results122,go_sem,z0,z1,z2]) rfl HS.out
set_option maxHeartbeats 3200000 in
set_option maxRecDepth 20000 in
theorem specCollect_any (w:World) (B:Nat) (v:Value) (h:Hp) (hh:RdH w B v h):
  Calls Tryz.prog 92 #[v] w (MadeHN w (mCollect h) (mCollectN h)):=by
 have hh':=hh.top
 obtain⟨D,m,d,D',m',d',rfl,hC,hR⟩:=hh.top
 have H:=((Owns.nil w).box [.slice D m d,.slice D' m' d'] 29).box [.slice none 0 0,.slice none 0 0] 29
 simp only[lnm]at H
 go_enter Tryz.func92,Tryz.ntmps92
 go_wp2_with fail
 have HX:=H.drew
 have H0:=hid H
 clear H
 obtain⟨a0,a1,-,-⟩:=HX.box2 1 rfl
 refine wp_region_tree (fun w'=>w'.cell? ⟨w.heap.size,0,none⟩=some (.slice D m d)/\w'.cell? ⟨w.heap.size,1,none⟩=some (.slice D' m' d')) 8 [] (.take 0 (.take 1 (.alt 2 (.alt 3 (.take 4 (.take 5 (.alt 6 (.take 7 (.done)) (.stop)))) (.stop)) (.stop)))) (by kernel_rfl) (by kernel_rfl) (by kernel_rfl) (⟨a0,a1⟩) ?_
 simp only[fillT,lgz,Nat.reduceBEq]
 repeat first|(with_reducible apply po_take;(·(go_simp;done));(·(intro w' hS';(try dsimp only at hS');go_simp;try with_reducible rfl));simp only[lpa])|(with_reducible apply po_skip;(·(go_simp;done));simp only[lpa])
 with_reducible refine po_last ?_ (fun K hK=>?_)
 ·(go_simp;done)
 go_simp
 refine (specReachable_any _ _ _ h (hh'.below HX.below)).mono ?_
 rintro e w1 ⟨vR,rfl,ho,hb⟩
 replace HX:=HX.madeB ho hb
 obtain⟨V,kV,rfl,rV⟩:=HX.formB 0 rfl
 clear a0 a1 ho hb
 obtain⟨a0,a1,-,-⟩:=HX.box2 2 rfl
 refine hK.out _ _ (.inr (⟨a0,a1⟩)) ?_
 clear hK K
 with_reducible refine po_last ?_ (fun K hK=>?_)
 ·(go_simp;done)
 go_simp
 refine (specSweepCells_any _ _ _ _ h _ _ _ _ (hh'.below HX.below) rV).mono ?_
 rintro e w2 ⟨cv,rvs,rv,rfl,K⟩
 replace K:=HX.merge K
 simp only[lca]at K
 obtain⟨T,hT⟩:∃ T,T=mSweepH h (mReachable h):=⟨_,rfl⟩
 rw[<-hT]at K
 have HT:Hid (T=mCollect h):=hid hT
 have HN:Hid (mSweepN h (mReachable h)=mCollectN h):=hid rfl
 rw[HN.out]
 clear hT HX
 have HX:=K
 clear K
 obtain⟨C,kC,rfl,-⟩:=HX.formC 0 rfl
 obtain⟨R,kR,rfl,-⟩:=HX.formI 1 rfl
 clear a0 a1
 obtain⟨a0,a1,-,-⟩:=HX.box2 4 rfl
 refine hK.out _ _ (.inr (⟨a0,a1⟩)) ?_
 clear hK K
 repeat first|(with_reducible apply po_take;(·(go_simp;done));(·(intro w' hS';(try dsimp only at hS');go_simp;try with_reducible rfl));simp only[lpa])|(with_reducible apply po_skip;(·(go_simp;done));simp only[lpa])
 with_reducible refine po_last ?_ (fun K hK=>?_)
 ·(go_simp;done)
 obtain⟨y0,y1,y2,y3⟩:=HX.box2 3 rfl
 go_simp
 have HZ:=(HX.putBox 3 rfl 0 (.slice C T.cells.length kC)).putBox 3 rfl 1 (.slice R T.roots.length kR)
 simp only[lnm]at HZ
 clear a0 a1
 obtain⟨a0,a1,-,-⟩:=HZ.box2 4 rfl
 refine hK.out _ _ (.inr (⟨a0,a1⟩)) ?_
 clear hK K
 repeat first|(with_reducible apply po_take;(·(go_simp;done));(·(intro w' hS';(try dsimp only at hS');go_simp;try with_reducible rfl));simp only[lpa])|(with_reducible apply po_skip;(·(go_simp;done));simp only[lpa])
 refine po_done ?_
 obtain⟨z0,z1,-,-⟩:=HZ.box2 3 rfl
 have HS:Hid (MadeHN w (mCollect h) (mCollectN h) (.returned (.tuple #[.agg #[.slice C T.cells.length kC,.slice R T.roots.length kR],.int .i64 (mCollectN h)])) _):=hid (by rw[<-HT.out];exact⟨_,rvs,_,rfl,HZ.take 2⟩)
 clear HX HZ H0 a0 a1
 go_wp2
 exact bodyPost_ret (by simp[results,Tryz.results92,go_sem,z0,z1]) rfl HS.out
theorem mCollect_good {h:Hp}(g:Good h):Good (mCollect h):=by
 have hs:=collect_good g
 have hs':=hs
 unfold sweepOk at hs'
 simp only[Bool.and_eq_true]at hs'
 unfold mCollect
 rw[(mSweep_yes hs).1]
 exact good_iff.1 hs'.2
end
structure Keeps (h:Hp) (ms:List Bool):Prop where
 len:ms.length=h.cells.length
 root:∀ r∈h.roots,0<=r->atB ms r.toNat=true
 ref:∀ (k:Nat) (l:Cel),h.cells[k]?=some l->atB ms k=true->∀ r∈l.refs,0<=r->atB ms r.toNat=true
theorem atB_at {ms:List Bool}{i:Nat}{b:Bool}(h:ms[i]?=some b):atB ms i=b:=by
 unfold atB
 rw[List.getD_eq_getElem?_getD,h];rfl
theorem atB_dead {ms:List Bool}{i:Nat}(hi:i<ms.length):atB (deadL ms) i=!atB ms i:=by
 unfold atB deadL
 rw[List.getD_eq_getElem?_getD,List.getD_eq_getElem?_getD,List.getElem?_map,List.getElem?_eq_getElem hi];rfl
theorem Keeps.rch {h:Hp}{ms:List Bool}(K:Keeps h ms) {S:Nat->Bool}{c:Nat}(hr:Rch h.cells S h.roots c):atB ms c=true:=by
 induction hr with
 | base h1 h2 _=>exact K.root _ h1 h2
 | step _ h1 h2 h3 _ ih=>exact K.ref _ _ h1 ih _ h2 h3
theorem reachL_from {h:Hp}{fr:List Int}(h0:heapOk h=true) (hf:∀ r∈h.roots,r∈fr):Keeps h (reachL h.cells fr):=by
 have key:∀ r:Int,usedN h.cells r.toNat=true->reachB h.cells fr r.toNat=true->atB (reachL h.cells fr) r.toNat=true:=fun r hu hb=>by
  rw[atB_at (reachL_at (usedN_lt hu)),hb]
 refine⟨reachL_length _ _,fun r hr hp=>?_,fun k l hl hk r hr hp=>?_⟩
 ·have hu:=leadsB_used ((heapOk_leads h0).1 r hr) hp
  refine key r hu ?_
  simp only[reachB,decide_eq_true_eq]
  exact .base (hf r hr) hp hu
 ·have hu:=leadsB_used ((heapOk_leads h0).2 k l hl r hr) hp
  refine key r hu ?_
  rw[atB_at (reachL_at (List.getElem?_eq_some_iff.1 hl).1)]at hk
  simp only[reachB,decide_eq_true_eq]at hk⊢
  exact .step hk hl hr hp hu
theorem sweep_cel {h:Hp}{ms:List Bool}(K:Keeps h ms) {i:Nat}(hm:atB ms i=true):(mDrop h (deadL ms)).cells[i]?=h.cells[i]?:=by
 show (wipeP _ _ _)[i]?=_
 rw[wipeP_get]
 by_cases hi:i<h.cells.length
 ·rw[if_pos hi,atB_dead (by rw[K.len];exact hi),hm,List.getD_eq_getElem?_getD,List.getElem?_eq_getElem hi];simp
 ·rw[if_neg hi,List.getElem?_eq_none (by omega)]
theorem sweep_gone {h:Hp}{ms:List Bool}(K:Keeps h ms) {i:Nat}(hi:i<h.cells.length) (hm:atB ms i=false):(mDrop h (deadL ms)).cells[i]?=some noCel:=by
 show (wipeP _ _ _)[i]?=_
 rw[wipeP_get,if_pos hi,atB_dead (by rw[K.len];exact hi),hm]
 simp[hi]
theorem sweep_len (h:Hp) (ds:List Bool):(mDrop h ds).cells.length=h.cells.length:=by simp[mDrop,wipeP_len]
theorem sweep_used {h:Hp}{ms:List Bool}(K:Keeps h ms) {i:Nat}(hm:atB ms i=true):usedN (mDrop h (deadL ms)).cells i=usedN h.cells i:=by
 rw[usedN_def,usedN_def,List.getD_eq_getElem?_getD,List.getD_eq_getElem?_getD,sweep_cel K hm]
theorem Keeps.ok {h:Hp}{ms:List Bool}(K:Keeps h ms) (h0:heapOk h=true):sweepOk h ms=true:=by
 have g:=good_iff.1 h0
 unfold sweepOk
 rw[h0,decide_eq_true K.len]
 simp only[Bool.and_self,Bool.true_and]
 rw[good_iff]
 have key:∀ r,leadsB h.cells r=true->(0<=r->atB ms r.toNat=true)->leadsB (mDrop h (deadL ms)).cells r=true:=fun r hr h1=>by
  rcases leadsB_iff.1 hr with e|⟨hp,hu⟩
  ·rw[e];exact leadsB_nil _
  ·rw[leadsB_iff]
   exact .inr ⟨hp,by rw[sweep_used K (h1 hp)];exact hu⟩
 refine⟨by rw[sweep_len];exact g.len,g.roots,fun c hc=>?_,fun r hr=>key r (g.lead r hr) (K.root r hr)⟩
 obtain⟨i,hi⟩:=List.getElem?_of_mem hc
 have hl:i<h.cells.length:=by have:=(List.getElem?_eq_some_iff.1 hi).1;rwa [sweep_len]at this
 cases hm:atB ms i
 ·rw[sweep_gone K hl hm]at hi
  injection hi with hi
  rw[<-hi];rfl
 ·rw[sweep_cel K hm]at hi
  have hok:=g.cell c (List.mem_of_getElem? hi)
  rw[cellOk_iff]at hok⊢
  rcases hok with⟨k1,k2,k3⟩|hok
  ·exact .inl ⟨k1,fun r hr=>key r (k2 r hr) (K.ref i c hi hm r hr),k3⟩
  ·exact .inr hok
theorem Keeps.heap {h:Hp}{ms:List Bool}(K:Keeps h ms) (h0:heapOk h=true):heapOk (mDrop h (deadL ms))=true:=by
 have:=K.ok h0
 unfold sweepOk at this
 simp only[Bool.and_eq_true]at this
 exact this.2
theorem Keeps.iso {h:Hp}{ms:List Bool}(K:Keeps h ms) (h0:heapOk h=true):Iso h (mDrop h (deadL ms)) (RchI h) id:=by
 have hc:∀ c,RchI h c->cel (mDrop h (deadL ms)).cells (id c)=cel h.cells c:=fun c hc=>by
  have h1:=hc.2
  simp only[reachB,decide_eq_true_eq]at h1
  unfold cel
  rw[List.getD_eq_getElem?_getD,List.getD_eq_getElem?_getD,id,sweep_cel K (K.rch h1)]
 exact⟨rchI_root h0,rchI_ref h0,fun c hc=>⟨hc.1,hc.1⟩,fun a b _ _ e=>e,(map_up_id _).symm,fun c k=>by rw[hc c k],fun c k=>by rw[hc c k,map_up_id]⟩
theorem Keeps.view {h:Hp}{ms:List Bool}(K:Keeps h ms) (h0:heapOk h=true):mView (mDrop h (deadL ms))=mView h:=view_same (K.iso h0) h0 (K.heap h0)
theorem keeps_reach {h:Hp}(h0:heapOk h=true):Keeps h (mReachable h):=by
 rw[mReachable_yes h0]
 exact reachL_from h0 fun _ hr=>hr
theorem collect_eq {h:Hp}(h0:heapOk h=true):mCollect h=mDrop h (deadL (mReachable h)):=by
 unfold mCollect
 exact (mSweep_yes ((keeps_reach h0).ok h0)).1
section
structure Sim (h h':Hp) (R:Int->Prop) (f:Int->Int):Prop extends Iso h h' R f where
 use:∀ c,R c->usedN h.cells c.toNat=true
 use':∀ c,R c->usedN h'.cells (f c).toNat=true
theorem getD_mem {l:List Int}{i:Nat}(h:0<=l.getD i (-1)):l.getD i (-1)∈l:=by
 rw[List.getD_eq_getElem?_getD]at h⊢
 cases hq:l[i]? with
 | none=>rw[hq]at h;simp at h
 | some x=>exact List.mem_of_getElem? hq
theorem getD_up (f:Int->Int) (l:List Int) (i:Nat):(l.map (up f)).getD i (-1)=up f (l.getD i (-1)):=by
 rw[List.getD_eq_getElem?_getD,List.getD_eq_getElem?_getD,List.getElem?_map]
 cases l[i]? <;> simp[up]
theorem cel_set {cs:List Cel}{i:Nat}{d:Cel}(hi:i<cs.length) (x:Int):cel (cs.set i d) x=if x.toNat=i then d else cel cs x:=by
 unfold cel
 rw[List.getD_eq_getElem?_getD,List.getD_eq_getElem?_getD,List.getElem?_set]
 by_cases e:i=x.toNat
 ·rw[if_pos e,if_pos e.symm,if_pos (by omega)];rfl
 ·rw[if_neg e,if_neg fun k=>e k.symm]
theorem putCel_len {cs:List Cel}{p:Nat}(d:Cel) (_hp:p<=cs.length):(putCel cs p d).length<=cs.length+1/\cs.length<=(putCel cs p d).length/\(p<cs.length->(putCel cs p d).length=cs.length):=by
 unfold putCel
 split
 ·refine⟨by simp,by simp,fun h=>by omega⟩
 ·refine⟨by simp,by simp,fun _=>by simp⟩
theorem cel_put {cs:List Cel}{p:Nat}{d:Cel}(hp:p<=cs.length) (x:Int):cel (putCel cs p d) x=if x.toNat=p then d else cel cs x:=by
 unfold putCel
 split
 ·rename_i e
  unfold cel
  rw[List.getD_eq_getElem?_getD,List.getD_eq_getElem?_getD]
  by_cases k:x.toNat=p
  ·rw[if_pos k,List.getElem?_append_right (by omega),show x.toNat - cs.length=0 by omega];rfl
  ·rw[if_neg k]
   rcases Nat.lt_or_ge x.toNat cs.length with q|q
   ·rw[List.getElem?_append_left q]
   ·rw[List.getElem?_eq_none (by simp;omega),List.getElem?_eq_none q]
 ·exact cel_set (by omega) x
theorem usedN_cel (cs:List Cel) (x:Int):usedN cs x.toNat=(cel cs x).used:=rfl
theorem celI_cel (h:Hp) (x:Int):celI h x=cel h.cells x:=rfl
section
variable {h h':Hp} {R:Int->Prop} {f:Int->Int}
theorem Sim.rootI (s:Sim h h' R f) (k:Int):Go.Proofs.YtgppgjgcnpimiaaGreat.rootI h' k=up f (Go.Proofs.YtgppgjgcnpimiaaGreat.rootI h k):=by
 unfold Go.Proofs.YtgppgjgcnpimiaaGreat.rootI
 rw[s.roots,getD_up]
theorem Sim.rootR (s:Sim h h' R f) (k:Int) (h0:0<=Go.Proofs.YtgppgjgcnpimiaaGreat.rootI h k):R (Go.Proofs.YtgppgjgcnpimiaaGreat.rootI h k):=s.root _ (getD_mem h0) h0
theorem Sim.setRoot (s:Sim h h' R f) (k:Nat) {x:Int}(hx:0<=x->R x):Sim ⟨h.cells,h.roots.set k x⟩ ⟨h'.cells,h'.roots.set k (up f x)⟩ R f:=by
 refine { root:=fun r hr h0=>?_,ref:=s.ref,pos:=s.pos,inj:=s.inj,roots:=?_,data:=s.data,refs:=s.refs,use:=s.use,use':=s.use' }
 ·rcases mem_set' hr with rfl|hr
  ·exact hx h0
  ·exact s.root r hr h0
 ·show h'.roots.set k (up f x)=(h.roots.set k x).map (up f)
  rw[s.roots,List.map_set]
theorem nat_inj {a b:Int}(ha:0<=a) (hb:0<=b) (h:a.toNat=b.toNat):a=b:=by omega
theorem Sim.setCell (s:Sim h h' R f) {c:Int}(hc:R c) {d d':Cel}(hu:d.used=true) (hu':d'.used=true) (e1:d'.data=d.data) (e2:d'.refs=d.refs.map (up f)) (hr:∀ r∈d.refs,0<=r->R r):Sim ⟨h.cells.set c.toNat d,h.roots⟩ ⟨h'.cells.set (f c).toNat d',h'.roots⟩ R f:=by
 have hl:=usedN_lt (s.use c hc)
 have hl':=usedN_lt (s.use' c hc)
 have key:∀ x,R x->cel (h.cells.set c.toNat d) x=(if x=c then d else cel h.cells x)/\cel (h'.cells.set (f c).toNat d') (f x)=(if x=c then d' else cel h'.cells (f x)):=fun x hx=>by
  rw[cel_set hl,cel_set hl']
  by_cases e:x=c
  ·subst e;simp
  ·rw[if_neg e,if_neg e,if_neg fun k=>e (nat_inj (s.pos x hx).1 (s.pos c hc).1 k),if_neg fun k=>e (s.inj x c hx hc (nat_inj (s.pos x hx).2 (s.pos c hc).2 k))]
   exact⟨rfl,rfl⟩
 refine { root:=s.root,ref:=fun x hx r hm h0=>?_,pos:=s.pos,inj:=s.inj,roots:=s.roots,data:=fun x hx=>?_,refs:=fun x hx=>?_,use:=fun x hx=>?_,use':=fun x hx=>?_ }
 ·simp only[(key x hx).1]at hm
  by_cases e:x=c
  ·rw[if_pos e]at hm;exact hr r hm h0
  ·rw[if_neg e]at hm;exact s.ref x hx r hm h0
 ·simp only[(key x hx).1,(key x hx).2]
  by_cases e:x=c
  ·rw[if_pos e,if_pos e,e1]
  ·rw[if_neg e,if_neg e,s.data x hx]
 ·simp only[(key x hx).1,(key x hx).2]
  by_cases e:x=c
  ·rw[if_pos e,if_pos e,e2]
  ·rw[if_neg e,if_neg e,s.refs x hx]
 ·rw[usedN_cel]
  simp only[(key x hx).1]
  by_cases e:x=c
  ·rw[if_pos e];exact hu
  ·rw[if_neg e,<-usedN_cel];exact s.use x hx
 ·rw[usedN_cel]
  simp only[(key x hx).2]
  by_cases e:x=c
  ·rw[if_pos e];exact hu'
  ·rw[if_neg e,<-usedN_cel];exact s.use' x hx
theorem Sim.new (s:Sim h h' R f) {p p':Nat}(hp:p<=h.cells.length) (hp':p'<=h'.cells.length) (hu:usedN h.cells p=false) (hu':usedN h'.cells p'=false) {d:Cel}(hd:d.used=true) (hr:∀ r∈d.refs,r=-1) (k:Nat):
  Sim ⟨putCel h.cells p d,h.roots.set k p⟩ ⟨putCel h'.cells p' d,h'.roots.set k p'⟩ (fun c=>c=p\/R c) (fun c=>if c=p then p' else f c):=by
 have ne:∀ c,R c->c≠(p:Int):=fun c hc e=>by
  have:=s.use c hc
  rw[e,Int.toNat_natCast,hu]at this;cases this
 have ne':∀ c,R c->f c≠(p':Int):=fun c hc e=>by
  have:=s.use' c hc
  rw[e,Int.toNat_natCast,hu']at this;cases this
 have fp:(fun c:Int=>if c=p then (p':Int) else f c) p=p':=by simp
 have fR:∀ c,R c->(fun c:Int=>if c=p then (p':Int) else f c) c=f c:=fun c hc=>by simp[ne c hc]
 generalize hg:(fun c:Int=>if c=p then (p':Int) else f c)=g at fp fR⊢
 have upg:∀ r,(0<=r->R r)->up g r=up f r:=fun r h1=>by
  unfold up
  split
  ·rfl
  ·exact fR r (h1 (by omega))
 have mapg:∀ rs:List Int,(∀ r∈rs,0<=r->R r)->rs.map (up g)=rs.map (up f):=fun rs h1=>List.map_congr_left fun r hm=>upg r (h1 r hm)
 have mapd:d.refs.map (up g)=d.refs:=by
  refine (List.map_congr_left fun r hm=>?_).trans (List.map_id _)
  rw[hr r hm];simp[up]
 have cp:cel (putCel h.cells p d) p=d:=by rw[cel_put hp];simp
 have cp':cel (putCel h'.cells p' d) p'=d:=by rw[cel_put hp'];simp
 have cR:∀ c,R c->cel (putCel h.cells p d) c=cel h.cells c:=fun c hc=>by
  rw[cel_put hp,if_neg fun k=>ne c hc (by have:=(s.pos c hc).1;omega)]
 have cR':∀ c,R c->cel (putCel h'.cells p' d) (f c)=cel h'.cells (f c):=fun c hc=>by
  rw[cel_put hp',if_neg fun k=>ne' c hc (by have:=(s.pos c hc).2;omega)]
 refine { root:=fun r hm h0=>?_,ref:=?_,pos:=?_,inj:=?_,roots:=?_,data:=?_,refs:=?_,use:=?_,use':=?_ }
 ·rcases mem_set' hm with rfl|hm
  ·exact .inl rfl
  ·exact .inr (s.root r hm h0)
 ·rintro c (rfl|hc) r hm h0
  ·simp only[cp]at hm
   rw[hr r hm]at h0;omega
  ·simp only[cR c hc]at hm
   exact .inr (s.ref c hc r hm h0)
 ·rintro c (rfl|hc)
  ·rw[fp];omega
  ·rw[fR c hc];exact s.pos c hc
 ·rintro a b (rfl|ha) (rfl|hb) e
  ·rfl
  ·rw[fp,fR b hb]at e
   exact absurd e.symm (ne' b hb)
  ·rw[fp,fR a ha]at e
   exact absurd e (ne' a ha)
  ·rw[fR a ha,fR b hb]at e
   exact s.inj a b ha hb e
 ·show h'.roots.set k p'=(h.roots.set k p).map (up g)
  rw[List.map_set,mapg h.roots s.root,<-s.roots,up_pos (by omega),fp]
 ·rintro c (rfl|hc)
  ·simp only[fp,cp,cp']
  ·simp only[fR c hc,cR c hc,cR' c hc];exact s.data c hc
 ·rintro c (rfl|hc)
  ·simp only[fp,cp,cp',mapd]
  ·simp only[fR c hc,cR c hc,cR' c hc]
   rw[s.refs c hc,mapg _ (s.ref c hc)]
 ·rintro c (rfl|hc)
  ·rw[usedN_cel];simp only[cp];exact hd
  ·rw[usedN_cel];simp only[cR c hc];exact s.use c hc
 ·rintro c (rfl|hc)
  ·rw[usedN_cel];simp only[fp,cp'];exact hd
  ·rw[usedN_cel];simp only[fR c hc,cR' c hc];exact s.use' c hc
theorem Sim.place (s:Sim h h' R f) (k c:Int):placeB h' (Go.Proofs.YtgppgjgcnpimiaaGreat.rootI h' k) c=placeB h (Go.Proofs.YtgppgjgcnpimiaaGreat.rootI h k) c:=by
 rw[s.rootI]
 unfold placeB
 rcases Int.lt_or_le (Go.Proofs.YtgppgjgcnpimiaaGreat.rootI h k) 0 with h0|h0
 ·rw[up_neg h0]
  simp[show ¬ 0<=Go.Proofs.YtgppgjgcnpimiaaGreat.rootI h k by omega]
 ·have hR:=s.rootR k h0
  rw[up_pos h0,celI_cel,celI_cel,s.refs _ hR,List.length_map]
  simp[h0,(s.pos _ hR).2]
theorem Sim.poss (s:Sim h h' R f) (o:Cmd):possB h' o=possB h o:=by
 unfold possB
 rw[s.place,s.place,s.rootI]
 have e:decide (0<=up f (Go.Proofs.YtgppgjgcnpimiaaGreat.rootI h o.a))=decide (0<=Go.Proofs.YtgppgjgcnpimiaaGreat.rootI h o.a):=by
  rcases Int.lt_or_le (Go.Proofs.YtgppgjgcnpimiaaGreat.rootI h o.a) 0 with h0|h0
  ·rw[up_neg h0]
  ·rw[up_pos h0]
   simp[h0,(s.pos _ (s.rootR _ h0)).2]
 rw[e]
theorem Sim.step (s:Sim h h' R f) {o:Cmd}(hp:possB h o=true) {p p':Nat}(hn:o.op=1->p<=h.cells.length/\p'<=h'.cells.length/\usedN h.cells p=false/\usedN h'.cells p'=false):∃ R' f',Sim (mDo h o p) (mDo h' o p') R' f':=by
 unfold possB at hp
 unfold mDo
 by_cases h1:o.op=1
 ·obtain⟨q1,q2,q3,q4⟩:=hn h1
  simp only[h1,if_true]
  exact⟨_,_,s.new q1 q2 q3 q4 (d:=newCel o) rfl (fun r hr=>by simp only[newCel]at hr;exact List.eq_of_mem_replicate hr) o.a.toNat⟩
 by_cases h2:o.op=2
 ·simp only[h2]at hp⊢
  simp only[Int.reduceEq,if_false,if_true]at hp⊢
  unfold placeB at hp
  simp only[Bool.and_eq_true,decide_eq_true_eq]at hp
  have hR:=s.rootR o.b hp.1
  rw[s.rootI,up_pos hp.1,celI_cel,celI_cel,s.refs _ hR,getD_up]
  exact⟨_,_,s.setRoot _ fun h0=>s.ref _ hR _ (getD_mem h0) h0⟩
 by_cases h3:o.op=3
 ·simp only[h3]at hp⊢
  simp only[Int.reduceEq,if_false,if_true]at hp⊢
  unfold placeB at hp
  simp only[Bool.and_eq_true,decide_eq_true_eq]at hp
  have hR:=s.rootR o.a hp.1
  rw[s.rootI o.a,up_pos hp.1,celI_cel,celI_cel,s.rootI o.b]
  refine⟨_,_,s.setCell hR (d:=setRef (cel h.cells (Go.Proofs.YtgppgjgcnpimiaaGreat.rootI h o.a)) o.c.toNat (Go.Proofs.YtgppgjgcnpimiaaGreat.rootI h o.b)) (s.use _ hR) (s.use' _ hR) (s.data _ hR) ?_ fun r hr h0=>?_⟩
  ·simp only[setRef]
   rw[s.refs _ hR,List.map_set]
  ·simp only[setRef]at hr
   rcases mem_set' hr with rfl|hr
   ·exact s.rootR _ h0
   ·exact s.ref _ hR r hr h0
 by_cases h4:o.op=4
 ·simp only[h4]at hp⊢
  simp only[Int.reduceEq,if_false,if_true]at hp⊢
  rw[s.rootI]
  exact⟨_,_,s.setRoot _ fun h0=>s.rootR _ h0⟩
 by_cases h5:o.op=5
 ·simp only[h5]at hp⊢
  simp only[Int.reduceEq,if_false,if_true]at hp⊢
  have:=s.setRoot o.a.toNat (x:=-1) fun h0=>by omega
  rw[up_neg (by omega)]at this
  exact⟨_,_,this⟩
 by_cases h6:o.op=6
 ·simp only[h6]at hp⊢
  simp only[Int.reduceEq,if_false,if_true,decide_eq_true_eq]at hp⊢
  have hR:=s.rootR o.a hp
  rw[s.rootI o.a,up_pos hp,celI_cel,celI_cel]
  exact⟨_,_,s.setCell hR (d:=setDat (cel h.cells (Go.Proofs.YtgppgjgcnpimiaaGreat.rootI h o.a)) o.b) (s.use _ hR) (s.use' _ hR) rfl (s.refs _ hR) (s.ref _ hR)⟩
 ·simp only[h1,h2,h3,h4,h5,h6,if_false]
  exact⟨_,_,s⟩
theorem Sim.rch (s:Sim h h' R f) {c:Int}(hc:RchI h c):R c:=by
 have key:∀ n:Nat,Rch h.cells (usedN h.cells) h.roots n->R (n:Int):=fun n hn=>by
  induction hn with
  | base h1 h2 _=>rw[Int.toNat_of_nonneg h2];exact s.root _ h1 h2
  | @step q l r _ h1 h2 h3 _ ih =>
   rw[Int.toNat_of_nonneg h3]
   exact s.ref _ ih r (by rw[cel_at (hid h1)];exact h2) h3
 have h1:=hc.2
 simp only[reachB,decide_eq_true_eq]at h1
 have:=key _ h1
 rwa [Int.toNat_of_nonneg hc.1]at this
theorem Sim.rch' (s:Sim h h' R f) {c:Int}(hc:RchI h c):RchI h' (f c):=by
 have key:∀ n:Nat,Rch h.cells (usedN h.cells) h.roots n->R (n:Int)->Rch h'.cells (usedN h'.cells) h'.roots (f n).toNat:=fun n hn=>by
  induction hn with
  | @base r h1 h2 _ =>
   intro hR
   rw[Int.toNat_of_nonneg h2]at hR⊢
   refine .base ?_ (s.pos _ hR).2 (s.use' _ hR)
   rw[s.roots]
   exact List.mem_map.2 ⟨r,h1,up_pos h2⟩
  | @step q l r hq h1 h2 h3 _ ih =>
   intro hR
   rw[Int.toNat_of_nonneg h3]at hR⊢
   have hRq:R (q:Int):=s.rch ⟨by omega,by simp only[reachB,Int.toNat_natCast,decide_eq_true_eq];exact hq⟩
   have hm:f r∈(cel h'.cells (f q)).refs:=by
    rw[s.refs _ hRq,cel_at (hid h1)]
    exact List.mem_map.2 ⟨r,h2,up_pos h3⟩
   obtain⟨l',hl',hm',-⟩:=cel_refs hm
   exact .step (ih hRq) hl' hm' (s.pos _ hR).2 (s.use' _ hR)
 have h1:=hc.2
 simp only[reachB,decide_eq_true_eq]at h1
 have h2:=s.rch hc
 have:=key _ h1 (by rwa [Int.toNat_of_nonneg hc.1])
 rw[Int.toNat_of_nonneg hc.1]at this
 exact⟨(s.pos c h2).2,by simp only[reachB,decide_eq_true_eq];exact this⟩
end
theorem up_up {f g:Int->Int}{r:Int}(h:0<=r->0<=f r):up g (up f r)=up (g ∘ f) r:=by
 rcases Int.lt_or_le r 0 with h0|h0
 ·rw[up_neg h0,up_neg h0,up_neg h0]
 ·rw[up_pos h0,up_pos (h h0),up_pos h0];rfl
theorem Sim.trans {a b c:Hp}{R:Int->Prop}{f g:Int->Int}(s:Sim a b R f) (t:Sim b c (RchI b) g) (ha:heapOk a=true):Sim a c (RchI a) (g ∘ f):=by
 have hR:∀ x,RchI a x->R x:=fun x hx=>s.rch hx
 have hB:∀ x,RchI a x->RchI b (f x):=fun x hx=>s.rch' hx
 have hm:∀ rs:List Int,(∀ r∈rs,0<=r->RchI a r)->(rs.map (up f)).map (up g)=rs.map (up (g ∘ f)):=fun rs h=>by
  rw[List.map_map]
  exact List.map_congr_left fun r hr=>up_up fun h0=>(s.pos r (hR r (h r hr h0))).2
 refine { root:=rchI_root ha,ref:=rchI_ref ha,pos:=fun x hx=>⟨hx.1,(t.pos _ (hB x hx)).2⟩,inj:=fun x y hx hy e=>s.inj x y (hR x hx) (hR y hy) (t.inj _ _ (hB x hx) (hB y hy) e),roots:=?_,data:=fun x hx=>?_,refs:=fun x hx=>?_,use:=fun x hx=>s.use x (hR x hx),use':=fun x hx=>t.use' _ (hB x hx) }
 ·rw[t.roots,s.roots,hm _ (rchI_root ha)]
 ·show (cel c.cells (g (f x))).data=_
  rw[t.data _ (hB x hx),s.data x (hR x hx)]
 ·show (cel c.cells (g (f x))).refs=_
  rw[t.refs _ (hB x hx),s.refs x (hR x hx),hm _ (rchI_ref ha x hx)]
theorem rchI_used {h:Hp}{c:Int}(hc:RchI h c):usedN h.cells c.toNat=true:=by
 have h1:=hc.2
 simp only[reachB,decide_eq_true_eq]at h1
 exact h1.inS
theorem Keeps.sim {h:Hp}{ms:List Bool}(K:Keeps h ms) (h0:heapOk h=true):Sim h (mDrop h (deadL ms)) (RchI h) id:=by
 refine { toIso:=K.iso h0,use:=fun c hc=>rchI_used hc,use':=fun c hc=>?_ }
 have h1:=hc.2
 simp only[reachB,decide_eq_true_eq]at h1
 rw[id,sweep_used K (K.rch h1)]
 exact rchI_used hc
theorem collect_sim {h:Hp}(h0:heapOk h=true):Sim h (mCollect h) (RchI h) id:=by
 rw[collect_eq h0]
 exact (keeps_reach h0).sim h0
theorem sim_refl {h:Hp}(h0:heapOk h=true):Sim h h (RchI h) id:=
 { root:=rchI_root h0,ref:=rchI_ref h0,pos:=fun _ hc=>⟨hc.1,hc.1⟩,inj:=fun _ _ _ _ e=>e,roots:=(map_up_id _).symm,data:=fun _ _=>rfl,refs:=fun _ _=>(map_up_id _).symm,use:=fun _ hc=>rchI_used hc,use':=fun _ hc=>rchI_used hc }
theorem mem_ordH {h:Hp}(h0:heapOk h=true) {c:Int}:c∈ordH h ↔ RchI h c:=by
 refine⟨ordH_reach h0 c,fun hc=>?_⟩
 have key:∀ n:Nat,Rch h.cells (usedN h.cells) h.roots n->(n:Int)∈ordH h:=fun n hn=>by
  induction hn with
  | base h1 h2 _=>rw[Int.toNat_of_nonneg h2];exact ordH_root h _ h1 h2
  | @step q l r _ h1 h2 h3 _ ih =>
   rw[Int.toNat_of_nonneg h3]
   exact ordH_ref h0 _ ih r (by rw[cel_at (hid h1)];exact h2) h3
 have h1:=hc.2
 simp only[reachB,decide_eq_true_eq]at h1
 have:=key _ h1
 rwa [Int.toNat_of_nonneg hc.1]at this
noncomputable def liveN (h:Hp):Nat:=(ordH h).length
theorem Iso.live {h h':Hp}{R:Int->Prop}{f:Int->Int}(g:Iso h h' R f):liveN h'=liveN h:=by
 unfold liveN
 rw[g.order,List.length_map]
theorem sub_len:∀ (l m:List Int),l.Nodup->(∀ x∈l,x∈m)->l.length<=m.length
 | [],m,_,_=>by simp
 | a::l,m,hd,h=>by
  rw[List.nodup_cons]at hd
  have h1:=sub_len l (m.erase a) hd.2 fun x hx=>by
   have hne:x≠a:=fun e=>hd.1 (e ▸ hx)
   rw[List.mem_erase_of_ne hne]
   exact h x (by simp[hx])
  have h2:=List.length_erase_of_mem (h a (by simp))
  have h3:0<m.length:=List.length_pos_of_mem (h a (by simp))
  simp only[List.length_cons]
  omega
theorem live_le {h:Hp}(h0:heapOk h=true):liveN h<=h.cells.length:=ordH_len h0
theorem live_free {h:Hp}(h0:heapOk h=true) {p L:Nat}(hl:h.cells.length<=L) (hp:p<L) (hu:usedN h.cells p=false):liveN h<L:=by
 have h1:=nodup_len L ((p:Int)::ordH h) (by
  rw[List.nodup_cons]
  refine⟨fun hm=>?_,ordH_nodup h⟩
  have:=rchI_used ((mem_ordH h0).1 hm)
  rw[Int.toNat_natCast,hu]at this;cases this) fun x hx=>by
   rcases List.mem_cons.1 hx with rfl|hx
   ·omega
   ·have:=(mem_ordH h0).1 hx
    have h2:=reach_lt this
    have h3:=this.1
    omega
 simp only[List.length_cons]at h1
 unfold liveN
 omega
theorem live_full {h:Hp}(h0:heapOk h=true) {L:Nat}(hf:∀ i,i<L->reachB h.cells h.roots i=true):L<=liveN h:=by
 have h1:=sub_len ((List.range L).map fun i:Nat=>(i:Int)) (ordH h) (by
  refine List.Pairwise.map _ (fun a b hab e=>hab (by omega)) List.nodup_range) fun x hx=>by
   obtain⟨i,hi,rfl⟩:=List.mem_map.1 hx
   rw[mem_ordH h0]
   exact⟨by omega,by rw[Int.toNat_natCast];exact hf i (List.mem_range.1 hi)⟩
 rw[List.length_map,List.length_range]at h1
 exact h1
end
section
def heldP (X:Hp) (k:Nat):Prop:=(k:Int)∈X.roots\/∃ (j:Nat) (l:Cel),X.cells[j]?=some l/\(k:Int)∈l.refs
structure KeptBy (h:Hp) (S:Nat->Prop):Prop where
 used:∀ i,S i->usedN h.cells i=true
 held:∀ i,S i->(i:Int)∈h.roots\/∃ (j:Nat) (l:Cel),S j/\h.cells[j]?=some l/\(i:Int)∈l.refs
def keepP (h:Hp) (k:Nat):Prop:=∃ S,KeptBy h S/\S k
theorem keep_by (h:Hp):KeptBy h (keepP h):=
 ⟨fun i ⟨S,K,hi⟩=>K.used i hi,fun i ⟨S,K,hi⟩=>(K.held i hi).imp id fun⟨j,l,hj,h1,h2⟩=>⟨j,l,⟨S,K,hj⟩,h1,h2⟩⟩
theorem keep_root {h:Hp}{k:Nat}(hr:(k:Int)∈h.roots) (hu:usedN h.cells k=true):keepP h k:=
 ⟨fun i=>keepP h i\/i=k,⟨fun i hi=>hi.elim ((keep_by h).used i) fun e=>by rw[e];exact hu,fun i hi=>hi.elim (fun hk=>((keep_by h).held i hk).imp id fun⟨j,l,hj,h1,h2⟩=>⟨j,l,.inl hj,h1,h2⟩) fun e=>.inl (by rw[e];exact hr)⟩,.inr rfl⟩
theorem keep_ref {h:Hp}{j k:Nat}{l:Cel}(hj:keepP h j) (hl:h.cells[j]?=some l) (hr:(k:Int)∈l.refs) (hu:usedN h.cells k=true):keepP h k:=
 ⟨fun i=>keepP h i\/i=k,⟨fun i hi=>hi.elim ((keep_by h).used i) fun e=>by rw[e];exact hu,fun i hi=>hi.elim (fun hk=>((keep_by h).held i hk).imp id fun⟨j,l,hj,h1,h2⟩=>⟨j,l,.inl hj,h1,h2⟩) fun e=>.inr ⟨j,l,.inl hj,hl,by rw[e];exact hr⟩⟩,.inr rfl⟩
open Classical in
noncomputable def keepL (h:Hp):List Bool:=(List.range h.cells.length).map fun k=>decide (keepP h k)
theorem keepL_len (h:Hp):(keepL h).length=h.cells.length:=by simp[keepL]
theorem keepL_at {h:Hp}{k:Nat}(hk:k<h.cells.length):atB (keepL h) k=true ↔ keepP h k:=by
 have e:(keepL h)[k]?=some (@decide (keepP h k) (Classical.propDecidable _)):=by
  unfold keepL
  rw[List.getElem?_map,List.getElem?_range hk];rfl
 rw[atB_at e]
 simp
theorem keeps_kept {h:Hp}(h0:heapOk h=true):Keeps h (keepL h):=by
 obtain⟨g1,g2⟩:=heapOk_leads h0
 have nat:∀ {r:Int},0<=r->((r.toNat:Nat):Int)=r:=fun h=>by omega
 refine⟨keepL_len h,fun r hr hp=>?_,fun k l hl hk r hr hp=>?_⟩
 ·have hu:=leadsB_used (g1 r hr) hp
  exact (keepL_at (usedN_lt hu)).2 (keep_root (by rw[nat hp];exact hr) hu)
 ·have hkl:=(List.getElem?_eq_some_iff.1 hl).1
  have hu:=leadsB_used (g2 k l hl r hr) hp
  exact (keepL_at (usedN_lt hu)).2 (keep_ref ((keepL_at hkl).1 hk) hl (by rw[nat hp];exact hr) hu)
noncomputable def mUncount (h:Hp):Hp:=mDrop h (deadL (keepL h))
theorem uncount_ok {h:Hp}(h0:heapOk h=true):heapOk (mUncount h)=true:=(keeps_kept h0).heap h0
theorem uncount_sim {h:Hp}(h0:heapOk h=true):Sim h (mUncount h) (RchI h) id:=(keeps_kept h0).sim h0
theorem uncount_len {h:Hp}:(mUncount h).cells.length=h.cells.length:=by
 unfold mUncount mDrop wipeP
 simp
structure Fre (h X:Hp):Prop where
 len:X.cells.length=h.cells.length
 roots:X.roots=h.roots
 at_:∀ k,k<h.cells.length->X.cells[k]?=h.cells[k]?\/(X.cells[k]?=some noCel/\¬ keepP h k)
theorem Fre.start (h:Hp):Fre h h:=⟨rfl,rfl,fun _ _=>.inl rfl⟩
theorem Fre.kept {h X:Hp}(f:Fre h X) {k:Nat}(hk:keepP h k):X.cells[k]?=h.cells[k]?:=
 (f.at_ k (usedN_lt ((keep_by h).used k hk))).elim id fun e=>absurd hk e.2
theorem Fre.lose {h X:Hp}(f:Fre h X) {k:Nat}(hn:¬ heldP X k):¬ keepP h k:=fun hk=>by
 refine hn ?_
 rcases (keep_by h).held k hk with e|⟨j,l,hj,h1,h2⟩
 ·exact .inl (by rw[f.roots];exact e)
 ·exact .inr ⟨j,l,(f.kept hj).trans h1,h2⟩
theorem Fre.step {h X:Hp}(f:Fre h X) {k:Nat}(hn:¬ heldP X k):Fre h ⟨X.cells.set k noCel,X.roots⟩:=by
 refine⟨by simp[f.len],f.roots,fun i hi=>?_⟩
 by_cases e:k=i
 ·subst e
  exact .inr ⟨by rw[List.getElem?_set_self (by rw[f.len];exact hi)],f.lose hn⟩
 ·show (X.cells.set k noCel)[i]?=_\/(X.cells.set k noCel)[i]?=_/\_
  rw[List.getElem?_set_ne e]
  exact f.at_ i hi
theorem Fre.fin {h X:Hp}(h0:heapOk h=true) (f:Fre h X) (he:∀ k,usedN X.cells k=true->heldP X k):X=mUncount h:=by
 have usedX:∀ k,usedN X.cells k=true->X.cells[k]?=h.cells[k]?:=fun k hu=>by
  have hk:=usedN_lt hu
  rw[f.len]at hk
  rcases f.at_ k hk with e|⟨e,-⟩
  ·exact e
  ·rw[usedN_at (hid e)]at hu;cases hu
 have hK:KeptBy h fun k=>usedN X.cells k=true:=by
  refine⟨fun i hi=>?_,fun i hi=>?_⟩
  ·have:=usedX i hi
   have hk:=usedN_lt hi
   rw[List.getElem?_eq_getElem hk]at this
   rw[usedN_at (hid this.symm),<-usedN_at (hid (List.getElem?_eq_getElem hk))]
   exact hi
  ·rcases he i hi with e|⟨j,l,h1,h2⟩
   ·exact .inl (by rw[<-f.roots];exact e)
   ·have hj:=(List.getElem?_eq_some_iff.1 h1).1
    rw[f.len]at hj
    rcases f.at_ j hj with e|⟨e,-⟩
    ·rw[h1]at e
     refine .inr ⟨j,l,?_,e.symm,h2⟩
     have hok:cellOk h.cells l=true:=by
      have h0':=h0
      simp only[heapOk,Bool.and_eq_true,List.all_eq_true]at h0'
      exact h0'.1.2 l (List.mem_of_getElem? e.symm)
     rw[usedN_at (hid h1)]
     rcases cellOk_iff.1 hok with q|q
     ·exact q.1
     ·rw[q.2.2]at h2;simp at h2
    ·rw[h1]at e
     injection e with e
     rw[e]at h2
     simp[noCel]at h2
 have cells:X.cells=(mUncount h).cells:=by
  apply List.ext_getElem?
  intro k
  by_cases hk:k<h.cells.length
  ·have e:(mUncount h).cells[k]?=some (if keepL h |>.getD k false then h.cells.getD k noCel else noCel):=by
    unfold mUncount mDrop wipeP
    simp only
    rw[List.getElem?_map,List.getElem?_range hk]
    have:=atB_dead (ms:=keepL h) (i:=k) (by rw[keepL_len];exact hk)
    simp only[Option.map_some,this]
    unfold atB
    cases (keepL h).getD k false <;> simp[hk]
   rw[e]
   have hc:h.cells[k]?=some (h.cells.getD k noCel):=by rw[List.getD_eq_getElem?_getD,List.getElem?_eq_getElem hk];rfl
   by_cases hp:keepP h k
   ·rw[f.kept hp,hc]
    have:(keepL h).getD k false=true:=(keepL_at hk).2 hp
    rw[this];rfl
   ·have hne:(keepL h).getD k false=false:=by
     cases q:(keepL h).getD k false
     ·rfl
     ·exact absurd ((keepL_at hk).1 q) hp
    rw[hne]
    have hnu:usedN X.cells k=false:=by
     cases q:usedN X.cells k
     ·rfl
     ·exact absurd ⟨_,hK,q⟩ hp
    rcases f.at_ k hk with e|⟨e,-⟩
    ·rw[e,hc]
     have hok:cellOk h.cells (h.cells.getD k noCel)=true:=by
      have h0':=h0
      simp only[heapOk,Bool.and_eq_true,List.all_eq_true]at h0'
      exact h0'.1.2 _ (List.mem_of_getElem? hc)
     rw[usedN_at (hid (e.trans hc))]at hnu
     generalize h.cells.getD k noCel=c at *
     rcases cellOk_iff.1 hok with q|q
     ·rw[q.1]at hnu;cases hnu
     ·obtain⟨u,d,rs⟩:=c
      simp only at q
      obtain⟨rfl,rfl,rfl⟩:=q
      rfl
    ·rw[e];rfl
  ·rw[List.getElem?_eq_none (by rw[f.len];omega),List.getElem?_eq_none (by rw[uncount_len];omega)]
 obtain⟨Xc,Xr⟩:=X
 have hr:=f.roots
 simp only at hr cells
 subst hr
 rw[cells]
 rfl
end
section
def mFree (h:Hp):Nat:=h.cells.findIdx fun c=>!c.used
theorem mFree_le (h:Hp):mFree h<=h.cells.length:=List.findIdx_le_length
theorem mFree_not (h:Hp):usedN h.cells (mFree h)=false:=by
 rw[usedN_def,List.getD_eq_getElem?_getD]
 rcases Nat.lt_or_ge (mFree h) h.cells.length with q|q
 ·rw[List.getElem?_eq_getElem q]
  have:=List.findIdx_getElem (p:=fun c:Cel=>!c.used) (xs:=h.cells) (w:=q)
  simp only[Bool.not_eq_true']at this
  exact this
 ·rw[List.getElem?_eq_none q];rfl
theorem mFree_before {h:Hp}{i:Nat}(hi:i<mFree h):usedN h.cells i=true:=by
 have hl:i<h.cells.length:=by have:=mFree_le h;omega
 rw[usedN_def,List.getD_eq_getElem?_getD,List.getElem?_eq_getElem hl]
 have:=List.not_of_lt_findIdx (p:=fun c:Cel=>!c.used) (xs:=h.cells) hi
 simpa using this
noncomputable def stepSw (h:Hp) (L:Nat) (o:Cmd):Hp × Bool:=
 if possB h o then
  if o.op=1 then
   if mFree h<L then (mDo h o (mFree h),true)
   else if mFree (mCollect h)<L then (mDo (mCollect h) o (mFree (mCollect h)),true) else (mCollect h,false)
  else (mDo h o 0,true)
 else (h,false)
noncomputable def runSw (L:Nat):Hp->List Cmd->Hp × Bool
 | h,[]=>(h,true)
 | h,o::os=>if (stepSw h L o).2=false/\o.op=1 then ((stepSw h L o).1,false) else runSw L (stepSw h L o).1 os
theorem mDo_len {h:Hp}{o:Cmd}{p:Nat}(hp:p<=h.cells.length):(mDo h o p).cells.length<=h.cells.length+1/\(o.op≠1->(mDo h o p).cells.length=h.cells.length)/\(p<h.cells.length->(mDo h o p).cells.length=h.cells.length):=by
 unfold mDo
 by_cases h1:o.op=1
 ·rw[if_pos h1]
  obtain⟨k1,k2,k3⟩:=putCel_len (newCel o) hp
  exact⟨k1,fun k=>absurd h1 k,k3⟩
 ·rw[if_neg h1]
  have key:∀ x:Hp,x.cells.length=h.cells.length->x.cells.length<=h.cells.length+1/\(o.op≠1->x.cells.length=h.cells.length)/\(p<h.cells.length->x.cells.length=h.cells.length):=fun x e=>⟨by omega,fun _=>e,fun _=>e⟩
  split
  ·exact key _ rfl
  split
  ·exact key _ (by simp)
  split
  ·exact key _ rfl
  split
  ·exact key _ rfl
  split
  ·exact key _ (by simp)
  ·exact key _ rfl
theorem usedN_end (cs:List Cel):usedN cs cs.length=false:=by
 rw[usedN_def,List.getD_eq_getElem?_getD,List.getElem?_eq_none (Nat.le_refl _)];rfl
theorem poss_new {h:Hp}{o:Cmd}(h1:o.op=1):possB h o=true:=by
 unfold possB
 simp[h1]
theorem mStep_is {h:Hp}{o:Cmd}(g:Good h) (hc:cmdOk o=true) (hl:h.cells.length<40):mStep h o=if possB h o then mDo h o h.cells.length else h:=by
 have e:stepOk h o=possB h o:=by
  unfold stepOk
  rw[decide_eq_false (by omega:¬ h.cells.length=40)]
  simp
 unfold mStep
 rw[good_iff.2 g,hc,e]
 simp
theorem mStep_len {h:Hp}{o:Cmd}:(mStep h o).cells.length<=h.cells.length+1:=by
 unfold mStep
 split
 ·split
  ·exact (mDo_len (Nat.le_refl _)).1
  ·omega
 ·simp
theorem collect_used {h:Hp}(h0:heapOk h=true) {i:Nat}(hu:usedN (mCollect h).cells i=true):reachB (mCollect h).cells (mCollect h).roots i=true:=by
 have K:=keeps_reach h0
 have hi:i<h.cells.length:=by
  have:=usedN_lt hu
  rwa [collect_eq h0,sweep_len]at this
 have hm:atB (mReachable h) i=true:=by
  cases hb:atB (mReachable h) i
  ·rw[collect_eq h0,usedN_def,List.getD_eq_getElem?_getD,sweep_gone K hi hb]at hu
   simp[noCel]at hu
  ·rfl
 have hr:reachB h.cells h.roots i=true:=by
  rw[mReachable_yes h0,atB_at (reachL_at hi)]at hm
  exact hm
 have:=(collect_sim h0).rch' (c:=(i:Int)) ⟨by omega,by rw[Int.toNat_natCast];exact hr⟩
 have h2:=this.2
 rwa [id,Int.toNat_natCast]at h2
theorem collect_len' {h:Hp}(h0:heapOk h=true):(mCollect h).cells.length=h.cells.length:=by rw[collect_eq h0,sweep_len]
theorem stepSw_sim {L:Nat}(hL:L<=40) {h0 h:Hp}{R:Int->Prop}{f:Int->Int}{o:Cmd}(g0:Good h0) (g:Good h) (s:Sim h0 h R f) (hl:h.cells.length<=L) (hc:cmdOk o=true) (h40:h0.cells.length<40):
  Good (stepSw h L o).1/\(stepSw h L o).1.cells.length<=L/\(¬ ((stepSw h L o).2=false/\o.op=1)->∃ R' f',Sim (mStep h0 o) (stepSw h L o).1 R' f')/\(((stepSw h L o).2=false/\o.op=1) ↔ (o.op=1/\L<=liveN h0)):=by
 have hok:=good_iff.2 g
 have hok0:=good_iff.2 g0
 rw[mStep_is g0 hc h40]
 have hp:=s.poss o
 unfold stepSw
 cases hpb:possB h o
 ·have h1:o.op≠1:=fun e=>by rw[poss_new e]at hpb;cases hpb
  rw[hpb]at hp
  rw[<-hp]
  refine⟨by simpa using g,by simpa using hl,fun _=>⟨R,f,by simpa using s⟩,?_⟩
  simp[h1]
 ·rw[hpb]at hp
  rw[<-hp]
  simp only[if_true]
  by_cases h1:o.op=1
  ·simp only[h1,if_true]
   have new:∀ (x:Hp) (R:Int->Prop) (f:Int->Int),Good x->Sim h0 x R f->x.cells.length<=L->mFree x<L->Good (mDo x o (mFree x))/\(mDo x o (mFree x)).cells.length<=L/\(∃ R' f',Sim (mDo h0 o h0.cells.length) (mDo x o (mFree x)) R' f')/\¬ L<=liveN h0:=fun x R f gx sx hlx hf=>by
    have hd:=mDo_len (o:=o) (mFree_le x)
    refine⟨mDo_good gx hc (poss_new h1) (mFree_le x) fun _=>by omega,?_,sx.step hp.symm fun _=>⟨Nat.le_refl _,mFree_le x,usedN_end _,mFree_not x⟩,?_⟩
    ·rcases Nat.lt_or_ge (mFree x) x.cells.length with q|q
     ·have:=hd.2.2 q;omega
     ·have:=mFree_le x;omega
    ·have h2:=live_free (good_iff.2 gx) hlx hf (mFree_not x)
     rw[<-sx.toIso.live];omega
   by_cases hf:mFree h<L
   ·obtain⟨k1,k2,k3,k4⟩:=new h R f g s hl hf
    simp only[hf,if_true]
    exact⟨k1,k2,fun _=>k3,by simp;omega⟩
   ·simp only[hf,if_false]
    have gx:=mCollect_good g
    have sx:=s.trans (collect_sim hok) hok0
    have hlx:=collect_len' hok
    by_cases hf2:mFree (mCollect h)<L
    ·obtain⟨k1,k2,k3,k4⟩:=new _ _ _ gx sx (by omega) hf2
     simp only[hf2,if_true]
     exact⟨k1,k2,fun _=>k3,by simp;omega⟩
    ·simp only[hf2,if_false]
     refine⟨gx,by omega,fun k=>absurd ⟨trivial,trivial⟩ k,?_⟩
     have h2:=live_full (good_iff.2 gx) (L:=L) fun i hi=>collect_used hok (mFree_before (by omega))
     rw[sx.toIso.live]at h2
     simp[h2]
  ·simp only[h1,if_false]
   refine⟨mDo_good g hc hpb (Nat.zero_le _) fun k=>absurd k h1,by rw[(mDo_len (Nat.zero_le _)).2.1 h1];exact hl,fun _=>s.step hp.symm fun k=>absurd k h1,by simp⟩
def Fits (L:Nat) (h0:Hp) (os:List Cmd):Prop:=∀ (i:Nat) (o:Cmd),os[i]?=some o->o.op=1->liveN ((os.take i).foldl mStep h0)<L
theorem fits_cons {L:Nat}{h0:Hp}{o:Cmd}{os:List Cmd}:Fits L h0 (o::os) ↔ (o.op=1->liveN h0<L)/\Fits L (mStep h0 o) os:=by
 constructor
 ·intro h
  exact⟨fun h1=>h 0 o rfl h1,fun i p hp h1=>h (i+1) p (by simpa using hp) h1⟩
 ·rintro ⟨h1,h2⟩ i p hp hq
  cases i with
  | zero =>
   simp only[List.getElem?_cons_zero,Option.some.injEq]at hp
   subst hp
   exact h1 hq
  | succ i=>exact h2 i p (by simpa using hp) hq
theorem runSw_sim {L:Nat}(hL:L<=40):∀ (os:List Cmd) (h0 h:Hp) (R:Int->Prop) (f:Int->Int),Good h0->Good h->Sim h0 h R f->h.cells.length<=L->(∀ o∈os,cmdOk o=true)->h0.cells.length+os.length<=40 →
  Good (runSw L h os).1/\(runSw L h os).1.cells.length<=L/\((runSw L h os).2=true->∃ R' f',Sim (os.foldl mStep h0) (runSw L h os).1 R' f')/\((runSw L h os).2=true ↔ Fits L h0 os)
 | [],h0,h,R,f,g0,g,s,hl,_,_=>⟨g,hl,fun _=>⟨R,f,s⟩,⟨fun _ i o ho=>by simp at ho,fun _=>rfl⟩⟩
 | o::os,h0,h,R,f,g0,g,s,hl,hc,h40=>by
  simp only[List.length_cons]at h40
  have hco:=hc o (by simp)
  obtain⟨k1,k2,k3,k4⟩:=stepSw_sim hL g0 g s hl hco (by omega)
  rw[fits_cons]
  simp only[runSw]
  by_cases hx:(stepSw h L o).2=false/\o.op=1
  ·rw[if_pos hx]
   refine⟨k1,k2,fun k=>by simp at k,⟨fun k=>by simp at k,fun k=>?_⟩⟩
   have:=k4.1 hx
   have:=k.1 hx.2
   omega
  ·rw[if_neg hx]
   obtain⟨R',f',s'⟩:=k3 hx
   have hlen:=mStep_len (h:=h0) (o:=o)
   obtain⟨j1,j2,j3,j4⟩:=runSw_sim hL os (mStep h0 o) (stepSw h L o).1 R' f' (mStep_good g0 hco) k1 s' k2 (fun p hp=>hc p (by simp[hp])) (by omega)
   refine⟨j1,j2,j3,j4.trans ⟨fun k=>⟨fun h1=>?_,k⟩,fun k=>k.2⟩⟩
   rcases Nat.lt_or_ge (liveN h0) L with q|q
   ·exact q
   ·exact absurd (k4.2 ⟨h1,q⟩) hx
noncomputable def liveAt (cs:List Cmd) (k:Nat):Nat:=liveN (runTo (cs.take k))
noncomputable def peakTo (cs:List Cmd):Nat->Nat
 | 0=>0
 | k+1=>max (peakTo cs k) (liveAt cs (k+1))
theorem ordH_empty:ordH emptyH=[]:=by
 have h:=ordH_len (good_iff.2 emptyH_good)
 exact List.length_eq_zero_iff.1 (by simpa [emptyH] using h)
theorem liveAt_zero (cs:List Cmd):liveAt cs 0=0:=by
 unfold liveAt liveN
 rw[List.take_zero]
 show (ordH emptyH).length=0
 rw[ordH_empty];rfl
theorem le_peak (cs:List Cmd) {k:Nat}:∀ {n:Nat},k<=n->liveAt cs k<=peakTo cs n
 | 0,h=>by
  have:k=0:=by omega
  rw[this,liveAt_zero];omega
 | n+1,h=>by
  rcases Nat.lt_or_ge n k with q|q
  ·have:k=n+1:=by omega
   rw[this];exact Nat.le_max_right _ _
  ·exact Nat.le_trans (le_peak cs q) (Nat.le_max_left _ _)
theorem cmdsOk_iff {cs:List Cmd}:cmdsOk cs=true ↔ (∀ o∈cs,cmdOk o=true)/\cs.length<=40:=by
 simp[cmdsOk,List.all_eq_true]
noncomputable def mRunSwH (cs:List Cmd) (L:Int):Hp:=if cmdsOk cs && inR L 1 40 then (runSw L.toNat emptyH cs).1 else ⟨[],[]⟩
noncomputable def mRunSwB (cs:List Cmd) (L:Int):Bool:=cmdsOk cs && inR L 1 40 && (runSw L.toNat emptyH cs).2
section
variable {cs:List Cmd} {L:Nat}
theorem runSw_facts (hc:cmdsOk cs=true) (hL:L<=40):Good (runSw L emptyH cs).1/\(runSw L emptyH cs).1.cells.length<=L/\((runSw L emptyH cs).2=true->∃ R' f',Sim (mRun cs) (runSw L emptyH cs).1 R' f')/\((runSw L emptyH cs).2=true ↔ Fits L emptyH cs):=by
 obtain⟨h1,h2⟩:=cmdsOk_iff.1 hc
 have e:mRun cs=cs.foldl mStep emptyH:=by unfold mRun;rw[if_pos hc];rfl
 rw[e]
 exact runSw_sim hL cs emptyH emptyH _ _ emptyH_good emptyH_good (sim_refl (good_iff.2 emptyH_good)) (Nat.zero_le _) h1 (by show 0+cs.length<=40;omega)
theorem fits_more {L':Nat}(h:Fits L emptyH cs) (hl:L<=L'):Fits L' emptyH cs:=fun i o ho h1=>Nat.lt_of_lt_of_le (h i o ho h1) hl
theorem fits_peak (h:peakTo cs cs.length<L):Fits L emptyH cs:=fun i o ho _=>by
 have hi:=(List.getElem?_eq_some_iff.1 ho).1
 have:=le_peak cs (k:=i) (n:=cs.length) (by omega)
 show liveAt cs i<L
 omega
theorem fits_not (h:¬ Fits L emptyH cs):L<=peakTo cs cs.length:=by
 rcases Nat.lt_or_ge (peakTo cs cs.length) L with q|q
 ·exact absurd (fits_peak q) h
 ·exact q
theorem run_ok (hc:cmdsOk cs=true):heapOk (mRun cs)=true:=by
 have e:mRun cs=runTo cs:=by unfold mRun;rw[if_pos hc]
 rw[e]
 exact good_iff.2 (runTo_good cs (cmdsOk_iff.1 hc).1)
theorem runSw_view (hc:cmdsOk cs=true) (hL:L<=40) (h:(runSw L emptyH cs).2=true):mView (runSw L emptyH cs).1=mView (mRun cs):=by
 obtain⟨h1,-,h3,-⟩:=runSw_facts hc hL
 obtain⟨R,f,s⟩:=h3 h
 exact view_same s.toIso (run_ok hc) (good_iff.2 h1)
theorem runSw_end (hc:cmdsOk cs=true) (hL:L<=40):(runSw L emptyH cs).2=true ↔ Fits L emptyH cs:=(runSw_facts hc hL).2.2.2
end
end
theorem mapB_turn {f:Nat->Bool}{k n:Nat}(h:k<n):((List.range k).map f++List.replicate (n - k) false).set k (f k)=(List.range (k+1)).map f++List.replicate (n - (k+1)) false:=by
 have e:n - k=(n - (k+1))+1:=by omega
 rw[e,List.replicate_succ,List.range_succ,List.map_append,List.set_append_right _ _ (by simp)]
 simp
theorem mapB_here {f:Nat->Bool}{k n:Nat}(h:k<n):((List.range k).map f++List.replicate (n - k) false)[k]?=some false:=by
 rw[List.getElem?_append_right (by simp)]
 simp only[List.length_map,List.length_range,Nat.sub_self]
 rw[List.getElem?_replicate,if_pos (by omega)]
theorem list_any (m n:Nat) (w:World) (hm:m<2 ^ 64) (hn:n<=1048576):
  Calls Tryz.prog 164 #[.int .u64 m,.int .i64 n] w (MadeB w ((List.range n).map m.testBit)):=by
 obtain⟨i0,hi,hz0,hz1,hz2⟩:=info_parts Tryz.infoBool
 have HM:=hid hm
 clear hm
 go_enter Tryz.func164,Tryz.ntmps164
 go_wp2_with (at_make;refine wpList_make_full _ rfl _ _ _ rfl w.heap.size 4 i0 (.bool false) 1 Tryz.underlying62 hi hz0 hz1 .i64 .i64 _ _ n rfl rfl rfl rfl (by rw[hz2];omega) (by unfold maxLen;omega) (Nat.le_refl _) ?_)
 intro w1 hown hg
 have H1:=(Owns.nil w).mkB (by simpa using hown) hg
 clear hown hg
 go_wp2_with fail
 go_loopw [11] (fun i wr=>∃ k:Nat,i=.int .i64 k/\k<=n/\Owns w.heap.size w wr [.row 4 1 (.slice (some ⟨w.heap.size,0,none⟩) n n) n (((List.range k).map m.testBit++List.replicate (n - k) false).map Value.bool)]) (fun i _=>n - (intOf i).toNat)
 case atStart=>exact⟨0,rfl,Nat.zero_le _,H1⟩
 case round =>
  clear H1
  obtain⟨k,rfl,hk,H⟩:=hrel
  by_cases hlt:k<n
  ·have hT:=mapB_turn (f:=m.testBit) hlt
   obtain⟨y0,yf⟩:=H.elem 0 rfl (j:=k) (u:=.bool false) (by rw[List.getElem?_map,mapB_here hlt];rfl)
   have H2:=H.putRow 0 rfl k (.bool (m.testBit k))
   simp only[List.set_cons_zero]at H2
   rw[show ((List.map m.testBit (List.range k)++List.replicate (n - k) false).map Value.bool).set k (.bool (m.testBit k))=((List.map m.testBit (List.range k)++List.replicate (n - k) false).set k (m.testBit k)).map Value.bool from by rw[List.map_set],hT]at H2
   have HB:=hid (hasB_nat m k)
   have HH:=hid H2
   clear hT H2 H
   generalize m.testBit k=bk at *
   go_wp2_with fail
   refine (has_any m k _ HM.out).mono ?_
   rintro e w2 ⟨rfl,hw2⟩
   obtain rfl:=hw2
   rw[HB.out]
   go_wp2
   go_roundw
   case rel=>exact⟨k+1,by go_num,by omega,HH.out⟩
   case measure=>simp[intOf];omega
  ·obtain rfl:k=n:=by omega
   rw[Nat.sub_self,List.replicate_zero,List.append_nil]at H
   have ho:=H.own 0 rfl
   have hO:OwB wr w.heap.size wr.heap.size (.slice (some ⟨w.heap.size,0,none⟩) k k) ((List.range k).map m.testBit):=⟨by rw[List.length_map,List.length_range];exact ho,fun q e=>(ho.lt q e).2⟩
   have HD:=H.below
   clear H ho
   go_wp2
   go_ret
   exact⟨_,rfl,hO,HD⟩
theorem list_clos {h:Hp}{fr:List Int}{n:Nat}(hn:n=h.cells.length) (h64:h.cells.length<=64):(List.range n).map (closM h.cells (usedM h.cells) fr).testBit=reachL h.cells fr:=by
 subst hn
 unfold reachL
 rw[show (closM h.cells (usedM h.cells) fr).testBit=reachB h.cells fr from funext fun c=>closM_used h64 c]
theorem visit1_no {S:Nat}{st:Nat × List Int}{r:Int}(h:hasB S r=false):visit1 S st r=st:=by simp[visit1,h]
theorem visit1_met {S:Nat}{st:Nat × List Int}{r:Int}(h:hasB st.1 r=true):visit1 S st r=st:=by simp[visit1,h]
theorem visit1_yes {S m:Nat}{ws:List Int}{r:Int}(h:hasB S r=true) (h2:hasB m r=false):visit1 S (m,ws) r=(addB m r,ws++[r]):=by simp[visit1,h,h2]
abbrev VisB (S m g1 g2 g3:Nat) (v:Value) (ws:List Int) (L:List OB):List OB:=
 .box g2 [.int .u64 m] 140::.box g3 [v] 27::.ints v ws::.box g1 [.int .u64 S] 140::L
set_option maxHeartbeats 1600000 in
theorem visit_any {cs:List Cel}{fr:List Int}{lo:Nat}{w0 w:World}{L:List OB}{S m g1 g2 g3:Nat}{v:Value}{ws:List Int}(H:Owns lo w0 w (VisB S m g1 g2 g3 v ws L)) {B:Nat}{A:Option Addr}{n c:Nat}{rs:List Int}(hr:RdI w0 B A n c rs) (hB:B<=lo)
  (hS:S<2 ^ 64) (hM:Met cs S fr (m,ws)) (hR:∀ r∈rs,hasB S r=true->Rch cs S.testBit fr r.toNat):
  Calls Tryz.prog 166 #[.slice A n c,.pointer (some ⟨g1,0,none⟩),.pointer (some ⟨g2,0,none⟩),.pointer (some ⟨g3,0,none⟩)] w fun e w' =>
   (∃ u,e=.returned u)/\∃ v',Owns lo w0 w' (VisB S (visit S (m,ws) rs).1 g1 g2 g3 v' (visit S (m,ws) rs).2 L):=by
 have hm1:=hr.mx;have hcap1:=hr.cap
 have l1:=RdI.le1 hr;have l2:=RdI.le2 hr
 unfold maxLen at hm1
 go_enter Tryz.func166,Tryz.ntmps166
 go_wp2_with fail
 go_loopw [9] (fun i wr=>∃ (k:Nat) (v':Value),i=.int .i64 k/\k<=n/\Owns lo w0 wr (VisB S (visit S (m,ws) (rs.take k)).1 g1 g2 g3 v' (visit S (m,ws) (rs.take k)).2 L)) (fun i _=>n - (intOf i).toNat)
 case atStart=>exact⟨0,v,rfl,Nat.zero_le _,H⟩
 case round =>
  clear H
  obtain⟨k,v',rfl,hk,H⟩:=hrel
  have hM':=(hM.visit hS (rs.take k) (m,ws) fun r hr=>hR r (List.mem_of_mem_take hr)).1
  by_cases hlt:k<n
  ·obtain⟨b,o,x,rfl,hbb,hx,q1⟩:=RdI.at_ hr hlt
   have hT:=visit_take (S:=S) (st:=(m,ws)) hx
   generalize visit S (m,ws) (rs.take k)=st at *
   obtain⟨m1,ws1⟩:=st
   have g1':=H.ro q1 (by show b<lo;omega)
   obtain⟨x0,xf⟩:=H.box1 0 rfl
   obtain⟨y0,yf⟩:=H.box1 1 rfl
   obtain⟨z0,zf⟩:=H.box1 3 rfl
   have hml:=hM'.lt
   have hro:=hM'.room
   simp only at hml hro
   have HM:=hid hml
   have HS':=hid hS
   clear hml q1 hM'
   have hS2:S<2 ^ 64:=hS
   clear hS
   cases hs:hasB S x
   ·rw[visit1_no hs]at hT
    have HT:=hid hT
    have HH:=hid hs
    clear hT hs
    go_wp2_with fail
    refine (has_any S x wr HS'.out).mono ?_
    rintro e w2 ⟨rfl,rfl⟩
    rw[HH.out]
    go_wp2
    go_roundw
    case rel=>exact⟨k+1,v',by go_num,by omega,by rw[HT.out];exact H⟩
    case measure=>simp[intOf];omega
   ·have HH:=hid hs
    cases hm:hasB m1 x
    ·rw[visit1_yes hs hm]at hT
     have HT:=hid hT
     have HN:=hid hm
     obtain⟨p0,p1⟩:=hasB_lt hS2 hs
     clear hT hs hm
     go_wp2_with fail
     refine (has_any S x wr HS'.out).mono ?_
     rintro e w2 ⟨rfl,hw2⟩
     obtain rfl:=hw2
     rw[HH.out]
     go_wp2_with fail
     refine (has_any m1 x wr HM.out).mono ?_
     rintro e w2 ⟨rfl,hw2⟩
     obtain rfl:=hw2
     rw[HN.out]
     go_wp2_with fail
     refine (add_own H 0 rfl x HM.out p0 p1).mono ?_
     rintro e w2 ⟨⟨u,rfl⟩,H2⟩
     clear x0 xf y0 yf z0 zf g1'
     simp only[List.set_cons_zero]at H2
     obtain⟨y0,yf⟩:=H2.box1 1 rfl
     have H3:=H2.alloc (.cells #[.int .i64 x] 3)
     have y0':=H3.box1 1 rfl
     go_wp2_with (at_builtin;go_loud (refine wpList_pushO rfl (.tmp 24) (.tmp 26) rfl H3 2 rfl rfl rfl (rdI_one (heap1 w2 _) (Nat.le_refl _) one_le_maxLen) (by omega) ?_;intro A3 k3 w3 H4;obtain⟨y1,yf1⟩:=H4.box1 1 rfl))
     simp only[lsz]at H4
     have H5:=H4.putBox 1 rfl 0 (.slice A3 (ws1++[x]).length k3)
     simp only[lnm]at H5
     have HO:=hid H5
     clear H2 H3 H4 H5 y0' H
     go_wp2
     go_roundw
     case rel=>exact⟨k+1,_,by go_num,by omega,by rw[HT.out];exact HO.out⟩
     case measure=>simp[intOf];omega
    ·rw[visit1_met (st:=(m1,ws1)) hm]at hT
     have HT:=hid hT
     have HN:=hid hm
     clear hT hs hm
     go_wp2_with fail
     refine (has_any S x wr HS'.out).mono ?_
     rintro e w2 ⟨rfl,hw2⟩
     obtain rfl:=hw2
     rw[HH.out]
     go_wp2_with fail
     refine (has_any m1 x wr HM.out).mono ?_
     rintro e w2 ⟨rfl,hw2⟩
     obtain rfl:=hw2
     rw[HN.out]
     go_wp2
     go_roundw
     case rel=>exact⟨k+1,v',by go_num,by omega,by rw[HT.out];exact H⟩
     case measure=>simp[intOf];omega
  ·rw[List.take_of_length_le (by omega)]at H
   clear hM'
   go_wp2
   refine bodyPost_end (results_none rfl _ _ _) rfl ?_
   exact⟨⟨_,rfl⟩,v',H⟩
set_option maxHeartbeats 1600000 in
theorem closure_any (w:World) (B B':Nat) (v:Value) (h:Hp) (A:Option Addr) (n c:Nat) (fr:List Int) (S:Nat) (hh:RdH w B v h) (hr:RdI w B' A n c fr) (hS:S<2 ^ 64) (hSn:∀ c,S.testBit c=true->c<h.cells.length):
  Calls Tryz.prog 165 #[v,.slice A n c,.int .u64 S] w fun e w'=>e=.returned (.int .u64 (closM h.cells S fr))/\Below w.heap.size w w':=by
 obtain⟨D,m,d,D',m',d',rfl,hC,hR⟩:=hh.top
 have hr:=hr.top
 have hm1:=hC.mx;have hcap1:=hC.cap
 have l3:=hC.le1;have l4:=hC.le2
 unfold maxLen at hm1
 have H1:=(((((Owns.nil w).box [.slice D m d,.slice D' m' d'] 29).box [.int .u64 S] 140).box [.int .u64 (0:Nat)] 140).litI [] zero_le_maxLen)
 have H2:=H1.box [.slice (some ⟨w.heap.size+1+1+1,0,none⟩) 0 0] 27
 simp only[lnm]at H2
 have H3:Owns w.heap.size w _ (VisB S 0 (w.heap.size+1) (w.heap.size+1+1) (w.heap.size+1+1+1+1) (.slice (some ⟨w.heap.size+1+1+1,0,none⟩) 0 0) [] [.box w.heap.size [.slice D m d,.slice D' m' d'] 29]):=H2.order [2,0,1,3,4] (by decide) rfl
 clear H1 H2
 go_enter Tryz.func165,Tryz.ntmps165
 go_wp2_with fail
 refine (visit_any (cs:=h.cells) (fr:=fr) H3 hr (Nat.le_refl _) hS met_start fun r hr hs=>.base hr (hasB_pos hs).1 (hasB_pos hs).2).mono ?_
 rintro e w1 ⟨⟨u,rfl⟩,v1,H⟩
 have hM:=clo_start (cs:=h.cells) (fr:=fr) hS
 clear H3
 generalize visit S (0,[]) fr=st at *
 obtain⟨m0,ws0⟩:=st
 go_wp2_with fail
 go_loopg [] (ws0.length+free m0) (fun gk wr=>∃ (m1:Nat) (ws:List Int) (v':Value),gk=ws.length+free m1/\Clo h.cells S fr (m1,ws)/\Owns w.heap.size w wr (VisB S m1 (w.heap.size+1) (w.heap.size+1+1) (w.heap.size+1+1+1+1) v' ws [.box w.heap.size [.slice D m d,.slice D' m' d'] 29]))
 case atStart=>exact⟨m0,ws0,v1,rfl,hM,H⟩
 case round =>
  clear hM H
  obtain⟨m1,ws,v',rfl,hM,H⟩:=hrel
  obtain⟨x0,xf⟩:=H.box1 0 rfl
  obtain⟨y0,yf⟩:=H.box1 1 rfl
  obtain⟨a0,a1,-,-⟩:=H.box2 4 rfl
  have hlen:ws.length<=64:=by have:=hM.room;simp only at this;omega
  rcases nil_or_snoc ws with rfl|⟨ws',x,rfl⟩
  ·obtain⟨C1,k1,rfl,-⟩:=H.formI 2 rfl
   have HE:=hid (clo_end hS hM)
   have HD:=H.below
   clear hM H
   go_wp2
   go_ret
   exact⟨ret_i (by rw[<-HE.out]),HD⟩
  ·have hxs:hasB m1 x=true:=hM.stack x (by simp)
   obtain⟨p0,p1⟩:=hasB_lt hM.lt hxs
   obtain⟨k,rfl⟩:=Int.eq_ofNat_of_zero_le p0
   have hk:k<m:=by have:=hSn k ((hM.rch k (by rwa [hasB_nat]at hxs)).inS);omega
   obtain⟨b,o,l,A2,n2,c2,rfl,hbb,hx,q1,q2,q3,hrf⟩:=hC.at_ hk
   obtain⟨g,cc,rfl,hc1,hc2,hg1,hg2⟩:=H.rowAt 2 rfl (by simp)
   obtain⟨z0,zf⟩:=H.elem 2 rfl (j:=ws'.length) (u:=.int .i64 k) (by simp)
   have H2:=(H.shrink 2 rfl ws'.length (by simp)).putBox 1 rfl 0 (.slice (some ⟨g,0,none⟩) ws'.length cc)
   have e1:((ws'++[(k:Int)]).map (Value.int .i64)).take (ws'.length*1)=ws'.map (Value.int .i64):=by simp
   rw[e1]at H2
   have H3:Owns w.heap.size w _ (VisB S m1 (w.heap.size+1) (w.heap.size+1+1) (w.heap.size+1+1+1+1) (.slice (some ⟨g,0,none⟩) ws'.length cc) ws' [.box w.heap.size [.slice (some ⟨b,o,none⟩) m d,.slice D' m' d'] 29]):=H2
   obtain⟨hC2,hn2⟩:=clo_step hS hM hx.out
   have hM2:Met h.cells S fr (m1,ws'):=⟨hM.rch,fun r hr=>hM.stack r (by simp[hr]),hM.lt,by have:=hM.room;simp at this⊢;omega⟩
   have hrch:∀ r∈l.refs,hasB S r=true->Rch h.cells S.testBit fr r.toNat:=fun r hr hs=>.step (hM.rch k (by rwa [hasB_nat]at hxs)) hx.out hr (hasB_pos hs).1 (hasB_pos hs).2
   simp only[List.length_append,List.length_cons,List.length_nil,Nat.zero_add]at y0 hc1 hlen
   have g3:=H3.ro q3 hbb
   obtain⟨c0,c1,-,-⟩:=H3.box2 4 rfl
   have HC2:=hid hC2
   clear H2 hM e1 q1 q2 q3 hxs hC2
   go_wp2_with fail
   refine (visit_any (cs:=h.cells) (fr:=fr) H3 hrf (Nat.le_refl _) hS hM2 hrch).mono ?_
   rintro e w2 ⟨⟨u,rfl⟩,v2,H4⟩
   have hC2:=HC2.out
   clear HC2
   generalize visit S (m1,ws') l.refs=st at *
   obtain⟨m2,ws2⟩:=st
   clear g3 c0 c1 x0 xf y0 yf a0 a1 z0 zf
   go_wp2
   go_roundg (ws2.length+free m2)
   case measure=>simp only[List.length_append,List.length_cons,List.length_nil];omega
   case rel=>exact⟨m2,ws2,v2,rfl,hC2,H4⟩
theorem reachable_any (w:World) (B:Nat) (v:Value) (h:Hp) (hh:RdH w B v h) (hn:h.cells.length<=64):
  Calls Tryz.prog 163 #[v] w fun e w'=>e=.returned (.int .u64 (closM h.cells (usedM h.cells) h.roots))/\Below w.heap.size w w':=by
 have hh':=hh.top
 obtain⟨D,m,d,D',m',d',rfl,hC,hR⟩:=hh.top
 obtain⟨a0,a1,-,-⟩:=blk2 (heap1 w (.cells #[.slice D m d,.slice D' m' d'] 29))
 have hb1:=below_alloc w (.cells #[.slice D m d,.slice D' m' d'] 29)
 go_enter Tryz.func163,Tryz.ntmps163
 go_wp2_with fail
 refine wp_region_lex (fun w'=>w'.cell? ⟨w.heap.size,0,none⟩=some (.slice D m d)/\w'.cell? ⟨w.heap.size,1,none⟩=some (.slice D' m' d')) ([true,true,true,true,false,false,true]) (by kernel_rfl) (by kernel_rfl) ⟨a0,a1⟩ ?_
 repeat (first|(with_reducible refine lex_take (v:=?_) ?_ (fun w' hS'=>?_) ?_;rotate_left;(·(go_simp;done));(·((try dsimp only at hS');go_simp;try with_reducible rfl));simp only[lpa])|(with_reducible refine lex_skip ?_ ?_;(·(go_simp;done));simp only[lpa]))
 with_reducible refine lex_run ?_ (fun K hK=>?_)
 ·(go_simp;done)
 go_simp
 refine (usedSet_any _ _ _ h (hh'.below hb1.drew) hn).mono ?_
 rintro e w2 ⟨rfl,hb2⟩
 have b0:=keepd a0 hb2
 have b1:=keepd a1 hb2
 have hb3:=hb1.drew.trans (hb2.mono (by simp))
 refine hK.out _ _ ⟨b0,b1⟩ ?_
 clear hK K
 repeat (first|(with_reducible refine lex_take (v:=?_) ?_ (fun w' hS'=>?_) ?_;rotate_left;(·(go_simp;done));(·((try dsimp only at hS');go_simp;try with_reducible rfl));simp only[lpa])|(with_reducible refine lex_skip ?_ ?_;(·(go_simp;done));simp only[lpa]))
 with_reducible refine lex_run ?_ (fun K hK=>?_)
 ·(go_simp;done)
 go_simp
 refine (closure_any _ _ _ _ h _ _ _ h.roots (usedM h.cells) (hh'.below hb3) (hR.below hb3) (usedM_lt _) fun c hc=>usedN_lt (by rwa [usedM_bit hn]at hc)).mono ?_
 rintro e w4 ⟨rfl,hb4⟩
 refine hK.out _ _ ⟨keept b0 hb4,keept b1 hb4⟩ ?_
 clear hK K
 repeat (first|(with_reducible refine lex_take (v:=?_) ?_ (fun w' hS'=>?_) ?_;rotate_left;(·(go_simp;done));(·((try dsimp only at hS');go_simp;try with_reducible rfl));simp only[lpa])|(with_reducible refine lex_skip ?_ ?_;(·(go_simp;done));simp only[lpa]))
 refine lex_nil ?_
 have HB:=hb3.trans (hb4.mono hb3.size)
 clear b0 b1 a0 a1 hb2 hb3 hb4 hb1
 go_wp2
 go_ret
 exact⟨rfl,HB⟩
set_option maxHeartbeats 1600000 in
set_option maxRecDepth 20000 in
theorem implReachable_any (w:World) (B:Nat) (v:Value) (h:Hp) (hh:RdH w B v h):
  Calls Tryz.prog 158 #[v] w (MadeB w (mReachable h)):=by
 have hh':=hh.top
 obtain⟨D,m,d,D',m',d',rfl,hC,hR⟩:=hh.top
 have l3:=hC.le1;have l4:=hC.le2
 have H1:=(Owns.nil w).box [.slice D m d,.slice D' m' d'] 29
 go_enter Tryz.func158,Tryz.ntmps158
 go_wp2_with fail
 refine (heapValid_any _ _ _ h (hh'.below H1.below)).mono ?_
 rintro e w1 ⟨rfl,hb1⟩
 have H2:=H1.call hb1
 obtain⟨a0,a1,-,-⟩:=H2.box2 0 rfl
 clear H1 hb1
 cases hy:heapOk h
 ·have HF:=hid (mReachable_no hy)
  clear hy
  go_wp2
  go_ret
  rw[HF.out]
  exact H2.noBools.toB 0 rfl
 ·obtain⟨s4,-⟩:=heapOk_small hy
  have HF:=hid (mReachable_yes hy)
  have HL:=hid (list_clos (h:=h) (fr:=h.roots) (n:=m) (by omega) (by omega))
  have HM:=hid (closM_lt h.cells (usedM h.cells) h.roots)
  clear hy
  have HX:=H2.drew
  obtain⟨b0,b1,-,-⟩:=HX.box2 0 rfl
  go_wp2_with fail
  refine wp_region_tree (fun w'=>w'.cell? ⟨w.heap.size,0,none⟩=some (.slice D m d)/\w'.cell? ⟨w.heap.size,1,none⟩=some (.slice D' m' d')) 7 [] (.take 0 (.take 2 (.take 3 (.take 4 (.alt 1 (.alt 5 (.take 6 (.done)) (.stop)) (.stop)))))) (by kernel_rfl) (by kernel_rfl) (by kernel_rfl) (⟨b0,b1⟩) ?_
  simp only[fillT,lgz,Nat.reduceBEq]
  repeat first|(with_reducible apply po_take;(·(go_simp;done));(·(intro w' hS';(try dsimp only at hS');go_simp;try with_reducible rfl));simp only[lpa])|(with_reducible apply po_skip;(·(go_simp;done));simp only[lpa])
  with_reducible refine po_last ?_ (fun K hK=>?_)
  ·(go_simp;done)
  go_simp
  refine (reachable_any _ _ _ h (hh'.below HX.below) (by omega)).mono ?_
  rintro e w7 ⟨rfl,hb⟩
  replace HX:=HX.call hb
  replace b0:=keept b0 hb
  replace b1:=keept b1 hb
  refine hK.out _ _ (.inr (⟨b0,b1⟩)) ?_
  clear hK K
  with_reducible refine po_last ?_ (fun K hK=>?_)
  ·(go_simp;done)
  go_simp
  refine (list_any _ m _ HM.out (by omega)).mono ?_
  rintro e w9 ⟨v9,rfl,ho9,hb⟩
  rw[HL.out,<-HF.out]at ho9
  replace HX:=HX.madeB ho9 hb
  refine hK.out _ _ (.inr (⟨keept b0 hb,keept b1 hb⟩)) ?_
  clear hK K
  repeat first|(with_reducible apply po_take;(·(go_simp;done));(·(intro w' hS';(try dsimp only at hS');go_simp;try with_reducible rfl));simp only[lpa])|(with_reducible apply po_skip;(·(go_simp;done));simp only[lpa])
  refine po_done ?_
  clear b0 b1 a0 a1 ho9 hb
  go_wp2
  go_ret
  exact HX.toB 0 rfl
theorem OwB.only {w w':World}{lo hi lo' hi':Nat}{v:Value}{xs:List Bool}(ho:OwB w lo hi v xs) (hO:Only lo' hi' w w') (h:hi<=lo'\/hi'<=lo):OwB w' lo hi v xs:=
 ⟨own_keep ho.own fun k e=>hO.block k (ho.own.lt k e).2 (by have:=ho.lt k e;have:=(ho.own.lt k e).1;omega),ho.lt⟩
theorem OwB.rdB {w:World}{lo hi:Nat}{A:Option Addr}{n c:Nat}{xs:List Bool}(ho:OwB w lo hi (.slice A n c) xs):RdB w hi A n c xs:=by
 obtain⟨A',c',e,hr⟩:=ho.form
 injection e with e1 e2 e3
 subst e1 e2 e3
 exact hr
theorem mFree_at {h:Hp}{k:Nat}(hb:∀ i,i<k->usedN h.cells i=true) (hu:usedN h.cells k=false):mFree h=k:=by
 rcases Nat.lt_trichotomy (mFree h) k with q|q|q
 ·have:=mFree_not h;rw[hb _ q]at this;cases this
 ·exact q
 ·have:=mFree_before q;rw[hu]at this;cases this
theorem mFree_end {h:Hp}(hb:∀ i,i<h.cells.length->usedN h.cells i=true):mFree h=h.cells.length:=
 mFree_at hb (usedN_end _)
theorem lt_more {p:Nat->Bool}{k:Nat}(hb:∀ i,i<k->p i=true) (hk:p k=true):∀ i,i<k+1->p i=true:=fun i hi=>by
 rcases Nat.lt_or_ge i k with q|q
 ·exact hb i q
 ·rw[show i=k by omega];exact hk
theorem mRun_all {cs:List Cmd}(h:cmdsOk cs=true):mRun cs=runTo cs:=by unfold mRun;rw[if_pos h]
theorem inR_L {L:Nat}(h1:1<=L) (h2:L<=40):inR (L:Int) 1 40=true:=inR_iff.2 ⟨by omega,by omega⟩
theorem swB_no1 {cs:List Cmd}{L:Int}(h:cmdsOk cs=false):mRunSwB cs L=false:=by simp[mRunSwB,h]
theorem swB_no2 {cs:List Cmd}{L:Int}(h:inR L 1 40=false):mRunSwB cs L=false:=by simp[mRunSwB,h]
theorem swH_no1 {cs:List Cmd}{L:Int}(h:cmdsOk cs=false):mRunSwH cs L=⟨[],[]⟩:=by simp[mRunSwH,h]
theorem swH_no2 {cs:List Cmd}{L:Int}(h:inR L 1 40=false):mRunSwH cs L=⟨[],[]⟩:=by simp[mRunSwH,h]
theorem swB_yes {cs:List Cmd}{L:Nat}(h:cmdsOk cs=true) (h1:1<=L) (h2:L<=40):mRunSwB cs L=(runSw L emptyH cs).2:=by simp[mRunSwB,h,inR_L h1 h2]
theorem swH_yes {cs:List Cmd}{L:Nat}(h:cmdsOk cs=true) (h1:1<=L) (h2:L<=40):mRunSwH cs L=(runSw L emptyH cs).1:=by simp[mRunSwH,h,inR_L h1 h2]
theorem swB_fits {cs:List Cmd}{L:Nat}(h:cmdsOk cs=true) (h1:1<=L) (h2:L<=40):mRunSwB cs L=true ↔ Fits L emptyH cs:=by rw[swB_yes h h1 h2];exact runSw_end h h2
theorem sw_facts {cs:List Cmd}{L:Nat}(h:cmdsOk cs=true) (h1:1<=L) (h2:L<=40):heapOk (mRunSwH cs L)=true/\(mRunSwH cs L).cells.length<=L/\(mRunSwB cs L=true->mView (mRunSwH cs L)=mView (mRun cs))/\(mRunSwB cs L=true->∀ L':Nat,L<=L'->L'<=40->mRunSwB cs L'=true)/\(mRunSwB cs L=false->L<=peakTo cs cs.length):=by
 obtain⟨k1,k2,k3,k4⟩:=runSw_facts (L:=L) h h2
 rw[swH_yes h h1 h2]
 refine⟨good_iff.2 k1,k2,fun hb=>runSw_view h h2 (by rwa [swB_yes h h1 h2]at hb),fun hb L' ha hz=>(swB_fits h (by omega) hz).2 (fits_more ((swB_fits h h1 h2).1 hb) ha),fun hb=>fits_not fun hf=>?_⟩
 rw[(swB_fits h h1 h2).2 hf]at hb
 cases hb
def stepPl (h:Hp) (o:Cmd):Hp:=if possB h o && !(decide (o.op=1) && decide (40<=mFree h)) then mDo h o (mFree h) else h
theorem stepPl_is {h:Hp}{o:Cmd}(hl:h.cells.length<40):stepPl h o=if possB h o then mDo h o (mFree h) else h:=by
 have:=mFree_le h
 unfold stepPl
 rw[decide_eq_false (by omega:¬ 40<=mFree h)]
 simp
theorem stepPl_sim {h0 h:Hp}{R:Int->Prop}{f:Int->Int}{o:Cmd}(g0:Good h0) (g:Good h) (s:Sim h0 h R f) (hc:cmdOk o=true) (h40:h0.cells.length<40) (hl:h.cells.length<40):
  (∃ R' f',Sim (mStep h0 o) (stepPl h o) R' f')/\Good (stepPl h o)/\(stepPl h o).cells.length<=h.cells.length+1:=by
 rw[mStep_is g0 hc h40,stepPl_is hl]
 have hp:=s.poss o
 have hf:=mFree_le h
 cases hpb:possB h o
 ·rw[hpb]at hp
  rw[<-hp]
  exact⟨⟨R,f,s⟩,g,by simp⟩
 ·rw[hpb]at hp
  rw[<-hp]
  simp only[if_true]
  exact⟨s.step hp.symm fun _=>⟨Nat.le_refl _,hf,usedN_end _,mFree_not h⟩,mDo_good g hc hpb hf fun _=>by omega,(mDo_len hf).1⟩
structure Manager (α:Type) where
 start:α
 step:α->Nat->Cmd->α
 store:α->Hp
 ok:α->Prop
def Manager.run {α:Type} (M:Manager α):Nat->α->List Cmd->α
 | _,a,[]=>a
 | k,a,o::os=>M.run (k+1) (M.step a k o) os
structure Manager.Fine {α:Type} (M:Manager α):Prop where
 ok:M.ok M.start
 start:M.store M.start=emptyH
 good:∀ a,M.ok a->Good (M.store a)
 step:∀ a k o,M.ok a->cmdOk o=true->(M.store a).cells.length<40->M.ok (M.step a k o)/\(M.store (M.step a k o)).cells.length=(stepPl (M.store a) o).cells.length/\∃ R g,Sim (stepPl (M.store a) o) (M.store (M.step a k o)) R g/\R=RchI (stepPl (M.store a) o)
theorem Manager.Fine.run {α:Type}{M:Manager α}(F:M.Fine):∀ (os:List Cmd) (k:Nat) (h0:Hp) (a:α) (R:Int->Prop) (f:Int->Int),Good h0->M.ok a->Sim h0 (M.store a) R f->(∀ o∈os,cmdOk o=true)->h0.cells.length+os.length<=40->(M.store a).cells.length+os.length<=40 →
  M.ok (M.run k a os)/\∃ R' f',Sim (os.foldl mStep h0) (M.store (M.run k a os)) R' f'
 | [],k,h0,a,R,f,g0,ha,s,_,_,_=>⟨ha,R,f,s⟩
 | o::os,k,h0,a,R,f,g0,ha,s,hc,h1,h2=>by
  simp only[List.length_cons]at h1 h2
  have hco:=hc o (by simp)
  obtain⟨⟨R1,f1,s1⟩,g1,l1⟩:=stepPl_sim g0 (F.good a ha) s hco (by omega) (by omega)
  obtain⟨k1,k2,R2,f2,s2,rfl⟩:=F.step a k o ha hco (by omega)
  have hlen:=mStep_len (h:=h0) (o:=o)
  have s3:=s1.trans s2 (good_iff.2 (mStep_good g0 hco))
  exact F.run os (k+1) (mStep h0 o) _ _ _ (mStep_good g0 hco) k1 s3 (fun p hp=>hc p (by simp[hp])) (by omega) (by omega)
theorem Manager.Fine.view {α:Type}{M:Manager α}(F:M.Fine) {cs:List Cmd}(hc:cmdsOk cs=true):heapOk (M.store (M.run 0 M.start cs))=true/\mView (M.store (M.run 0 M.start cs))=mView (mRun cs):=by
 obtain⟨h1,h2⟩:=cmdsOk_iff.1 hc
 obtain⟨k1,R,f,s⟩:=F.run cs 0 emptyH M.start _ _ emptyH_good F.ok (by rw[F.start];exact sim_refl (good_iff.2 emptyH_good)) h1 (by show 0+cs.length<=40;omega) (by rw[F.start];show 0+cs.length<=40;omega)
 have g:=F.good _ k1
 rw[mRun_all hc]
 exact⟨good_iff.2 g,view_same s.toIso (good_iff.2 (runTo_good cs h1)) (good_iff.2 g)⟩
noncomputable def stepCt (h:Hp) (o:Cmd):Hp:=if possB h o && !(decide (o.op=1) && decide (40<=mFree h)) then mUncount (mDo h o (mFree h)) else h
noncomputable def counter:Manager Hp:=⟨emptyH,fun h _ o=>stepCt h o,id,Good⟩
theorem stepPl_good {h:Hp}{o:Cmd}(g:Good h) (hc:cmdOk o=true) (hl:h.cells.length<40):Good (stepPl h o):=by
 have hf:=mFree_le h
 rw[stepPl_is hl]
 cases hp:possB h o
 ·exact g
 ·exact mDo_good g hc hp hf fun _=>by omega
theorem stepCt_cases (h:Hp) (o:Cmd):stepCt h o=mUncount (stepPl h o)\/(stepCt h o=h/\stepPl h o=h):=by
 unfold stepCt stepPl
 split
 ·exact .inl rfl
 ·exact .inr ⟨rfl,rfl⟩
theorem counter_fine:counter.Fine where
 ok:=emptyH_good
 start:=rfl
 good:=fun _ g=>g
 step:=fun h _ o g hc hl=>by
  have gp:=stepPl_good g hc hl
  have hok:=good_iff.2 gp
  show Good (stepCt h o)/\(stepCt h o).cells.length=(stepPl h o).cells.length/\∃ R f,Sim (stepPl h o) (stepCt h o) R f/\R=RchI (stepPl h o)
  rcases stepCt_cases h o with e|⟨e1,e2⟩
  ·rw[e]
   exact⟨good_iff.1 (uncount_ok hok),uncount_len,_,_,uncount_sim hok,rfl⟩
  ·rw[e1,e2]
   exact⟨g,rfl,_,_,sim_refl (good_iff.2 g),rfl⟩
section
structure Ag where
 store:Hp
 old:List Bool
 noted:List Bool
structure AgOk (a:Ag):Prop where
 good:Good a.store
 len1:a.old.length=a.store.cells.length
 len2:a.noted.length=a.store.cells.length
 used:∀ i,atB a.old i=true->usedN a.store.cells i=true
 sub:∀ i,atB a.noted i=true->atB a.old i=true
 bar:∀ (i:Nat) (l:Cel),a.store.cells[i]?=some l->atB a.old i=true->atB a.noted i=false->∀ r∈l.refs,0<=r->atB a.old r.toNat=true
def agFrom (a:Ag):List Int:=a.store.roots++((List.range a.store.cells.length).filter (atB a.noted)).flatMap fun k=>(a.store.cells.getD k noCel).refs
def agYg (a:Ag) (k:Nat):Bool:=usedN a.store.cells k && !atB a.old k
open Classical in
noncomputable def agKeep (a:Ag):List Bool:=(List.range a.store.cells.length).map fun k=>atB a.old k || decide (Rch a.store.cells (agYg a) (agFrom a) k)
noncomputable def agYoung (a:Ag):Ag:=⟨mDrop a.store (deadL (agKeep a)),agKeep a,List.replicate a.store.cells.length false⟩
theorem agKeep_len (a:Ag):(agKeep a).length=a.store.cells.length:=by simp[agKeep]
theorem agKeep_at {a:Ag}{k:Nat}(hk:k<a.store.cells.length):atB (agKeep a) k=true ↔ atB a.old k=true\/Rch a.store.cells (agYg a) (agFrom a) k:=by
 have e:(agKeep a)[k]?=some (atB a.old k || @decide (Rch a.store.cells (agYg a) (agFrom a) k) (Classical.propDecidable _)):=by
  unfold agKeep
  rw[List.getElem?_map,List.getElem?_range hk];rfl
 rw[atB_at e]
 simp
theorem atB_false (n i:Nat):atB (List.replicate n false) i=false:=by
 unfold atB
 rw[List.getD_eq_getElem?_getD,List.getElem?_replicate]
 split <;> rfl
theorem ag_keeps {a:Ag}(A:AgOk a):Keeps a.store (agKeep a):=by
 have h0:=good_iff.2 A.good
 obtain⟨g1,g2⟩:=heapOk_leads h0
 have young:∀ {r:Int},usedN a.store.cells r.toNat=true->¬ atB a.old r.toNat=true->agYg a r.toNat=true:=fun hu hn=>by
  unfold agYg
  rw[hu]
  simp only[Bool.not_eq_true]at hn
  rw[hn];rfl
 refine⟨agKeep_len a,fun r hr hp=>?_,fun k l hl hk r hr hp=>?_⟩
 ·have hu:=leadsB_used (g1 r hr) hp
  refine (agKeep_at (usedN_lt hu)).2 ?_
  by_cases ho:atB a.old r.toNat=true
  ·exact .inl ho
  ·exact .inr (.base (List.mem_append_left _ hr) hp (young hu ho))
 ·have hkl:=(List.getElem?_eq_some_iff.1 hl).1
  have hu:=leadsB_used (g2 k l hl r hr) hp
  refine (agKeep_at (usedN_lt hu)).2 ?_
  by_cases ho:atB a.old r.toNat=true
  ·exact .inl ho
  ·refine .inr ?_
   rcases (agKeep_at hkl).1 hk with q|q
   ·cases hn:atB a.noted k
    ·exact absurd (A.bar k l hl q hn r hr hp) ho
    ·refine .base (List.mem_append_right _ ?_) hp (young hu ho)
     refine List.mem_flatMap.2 ⟨k,List.mem_filter.2 ⟨List.mem_range.2 hkl,hn⟩,?_⟩
     rw[List.getD_eq_getElem?_getD,hl]
     exact hr
   ·exact .step q hl hr hp (young hu ho)
theorem young_ok {a:Ag}(A:AgOk a):AgOk (agYoung a):=by
 have K:=ag_keeps A
 have h0:=good_iff.2 A.good
 have hl:=sweep_len a.store (deadL (agKeep a))
 have hu:∀ i,atB (agKeep a) i=true->usedN a.store.cells i=true:=fun i hi=>by
  have hil:i<a.store.cells.length:=by
   rcases Nat.lt_or_ge i a.store.cells.length with q|q
   ·exact q
   ·unfold atB at hi
    rw[List.getD_eq_getElem?_getD,List.getElem?_eq_none (by rw[agKeep_len];exact q)]at hi
    cases hi
  rcases (agKeep_at hil).1 hi with q|q
  ·exact A.used i q
  ·have:=q.inS
   unfold agYg at this
   simp only[Bool.and_eq_true]at this
   exact this.1
 refine⟨good_iff.1 (K.heap h0),by show (agKeep a).length=_;rw[agKeep_len];exact hl.symm,by show (List.replicate _ _).length=_;rw[List.length_replicate];exact hl.symm,fun i hi=>?_,fun i hi=>?_,fun i l hx hi _ r hr hp=>?_⟩
 ·show usedN (mDrop a.store (deadL (agKeep a))).cells i=true
  rw[sweep_used K hi]
  exact hu i hi
 ·exact absurd hi (by show ¬ atB (List.replicate _ _) i=true;rw[atB_false];exact Bool.false_ne_true)
 ·have hx':(mDrop a.store (deadL (agKeep a))).cells[i]?=some l:=hx
  rw[sweep_cel K hi]at hx'
  exact K.ref i l hx' hi r hr hp
theorem young_sim {a:Ag}(A:AgOk a):Sim a.store (agYoung a).store (RchI a.store) id:=(ag_keeps A).sim (good_iff.2 A.good)
theorem young_len (a:Ag):(agYoung a).store.cells.length=a.store.cells.length:=sweep_len _ _
end
theorem mDo_used {h:Hp}{o:Cmd}{p:Nat}(g:Good h) (hp:possB h o=true) {i:Nat}(hu:usedN h.cells i=true):usedN (mDo h o p).cells i=true:=by
 unfold mDo
 by_cases h1:o.op=1
 ·rw[if_pos h1]
  show usedN (putCel h.cells p (newCel o)) i=true
  unfold putCel
  split
  ·exact usedN_snoc _ _ hu
  ·exact usedN_set (fun _=>rfl) _ hu
 rw[if_neg h1]
 by_cases h2:o.op=2
 ·rw[if_pos h2];exact hu
 rw[if_neg h2]
 by_cases h3:o.op=3
 ·rw[if_pos h3]
  unfold possB at hp
  rw[if_neg h2,if_pos h3]at hp
  simp only[placeB,Bool.and_eq_true,decide_eq_true_eq]at hp
  obtain⟨hu',-,-⟩:=g.cell_of (g.rootI o.a) hp.1
  exact usedN_set (c:=setRef (celI h (rootI h o.a)) o.c.toNat (rootI h o.b)) (fun _=>hu') _ hu
 rw[if_neg h3]
 by_cases h4:o.op=4
 ·rw[if_pos h4];exact hu
 rw[if_neg h4]
 by_cases h5:o.op=5
 ·rw[if_pos h5];exact hu
 rw[if_neg h5]
 by_cases h6:o.op=6
 ·rw[if_pos h6]
  unfold possB at hp
  rw[if_neg h2,if_neg h3,if_pos h6]at hp
  simp only[decide_eq_true_eq]at hp
  obtain⟨hu',-,-⟩:=g.cell_of (g.rootI o.a) hp
  exact usedN_set (c:=setDat (celI h (rootI h o.a)) o.b) (fun _=>hu') _ hu
 ·rw[if_neg h6];exact hu
theorem mDo_refs {h:Hp}{o:Cmd}{p:Nat}(g:Good h) (hp:possB h o=true) {i:Nat}{l:Cel}(hi:i≠p\/o.op≠1) (hl:(mDo h o p).cells[i]?=some l):
  (∃ l',h.cells[i]?=some l'/\l'.refs=l.refs)\/(o.op=3/\i=(rootI h o.a).toNat/\∃ l',h.cells[i]?=some l'/\∀ r∈l.refs,r=rootI h o.b\/r∈l'.refs):=by
 unfold mDo at hl
 by_cases h1:o.op=1
 ·rw[if_pos h1]at hl
  have hne:i≠p:=hi.elim id fun k=>absurd h1 k
  have hl':(putCel h.cells p (newCel o))[i]?=some l:=hl
  unfold putCel at hl'
  split at hl'
  ·rename_i e
   refine .inl ⟨l,?_,rfl⟩
   rcases Nat.lt_or_ge i h.cells.length with q|q
   ·rw[List.getElem?_append_left q]at hl';exact hl'
   ·rw[List.getElem?_eq_none (by simp;omega)]at hl';cases hl'
  ·rw[List.getElem?_set_ne (fun e=>hne e.symm)]at hl'
   exact .inl ⟨l,hl',rfl⟩
 rw[if_neg h1]at hl
 by_cases h2:o.op=2
 ·rw[if_pos h2]at hl;exact .inl ⟨l,hl,rfl⟩
 rw[if_neg h2]at hl
 by_cases h3:o.op=3
 ·rw[if_pos h3]at hl
  unfold possB at hp
  rw[if_neg h2,if_pos h3]at hp
  simp only[placeB,Bool.and_eq_true,decide_eq_true_eq]at hp
  obtain⟨-,-,hx⟩:=g.cell_of (g.rootI o.a) hp.1
  have hl':(h.cells.set (rootI h o.a).toNat (setRef (celI h (rootI h o.a)) o.c.toNat (rootI h o.b)))[i]?=some l:=hl
  by_cases e:i=(rootI h o.a).toNat
  ·subst e
   have hlt:=(List.getElem?_eq_some_iff.1 hx).1
   rw[List.getElem?_set_self hlt]at hl'
   injection hl' with hl'
   subst hl'
   exact .inr ⟨h3,rfl,_,hx,fun r hr=>mem_set' hr⟩
  ·rw[List.getElem?_set_ne (fun k=>e k.symm)]at hl'
   exact .inl ⟨l,hl',rfl⟩
 rw[if_neg h3]at hl
 by_cases h4:o.op=4
 ·rw[if_pos h4]at hl;exact .inl ⟨l,hl,rfl⟩
 rw[if_neg h4]at hl
 by_cases h5:o.op=5
 ·rw[if_pos h5]at hl;exact .inl ⟨l,hl,rfl⟩
 rw[if_neg h5]at hl
 by_cases h6:o.op=6
 ·rw[if_pos h6]at hl
  unfold possB at hp
  rw[if_neg h2,if_neg h3,if_pos h6]at hp
  simp only[decide_eq_true_eq]at hp
  obtain⟨-,-,hx⟩:=g.cell_of (g.rootI o.a) hp
  have hl':(h.cells.set (rootI h o.a).toNat (setDat (celI h (rootI h o.a)) o.b))[i]?=some l:=hl
  by_cases e:i=(rootI h o.a).toNat
  ·subst e
   have hlt:=(List.getElem?_eq_some_iff.1 hx).1
   rw[List.getElem?_set_self hlt]at hl'
   injection hl' with hl'
   subst hl'
   exact .inl ⟨_,hx,rfl⟩
  ·rw[List.getElem?_set_ne (fun k=>e k.symm)]at hl'
   exact .inl ⟨l,hl',rfl⟩
 ·rw[if_neg h6]at hl;exact .inl ⟨l,hl,rfl⟩
def agMark (a:Ag) (o:Cmd):Bool:=decide (o.op=3) && atB a.old (rootI a.store o.a).toNat && decide (0<=rootI a.store o.b) && !atB a.old (rootI a.store o.b).toNat
def agNote (a:Ag) (o:Cmd):List Bool:=if agMark a o then a.noted.set (rootI a.store o.a).toNat true else a.noted
def agGrow (n:Nat) (l:List Bool):List Bool:=if l.length<n then l++[false] else l
theorem grow_at (n:Nat) (l:List Bool) (i:Nat):atB (agGrow n l) i=atB l i:=by
 unfold agGrow
 split
 ·unfold atB
  rw[List.getD_eq_getElem?_getD,List.getD_eq_getElem?_getD]
  rcases Nat.lt_trichotomy i l.length with q|q|q
  ·rw[List.getElem?_append_left q]
  ·subst q;simp
  ·rw[List.getElem?_eq_none (by simp;omega),List.getElem?_eq_none (by omega)]
 ·rfl
theorem grow_len {n:Nat}{l:List Bool}(h1:l.length<=n) (h2:n<=l.length+1):(agGrow n l).length=n:=by
 unfold agGrow
 split
 ·simp;omega
 ·omega
theorem note_at {a:Ag}(A:AgOk a) (o:Cmd) (i:Nat):atB (agNote a o) i=true ↔ atB a.noted i=true\/(agMark a o=true/\i=(rootI a.store o.a).toNat):=by
 unfold agNote
 cases hm:agMark a o
 ·simp
 ·have ho:atB a.old (rootI a.store o.a).toNat=true:=by
   unfold agMark at hm
   simp only[Bool.and_eq_true]at hm
   exact hm.1.1.2
  have hlt:(rootI a.store o.a).toNat<a.noted.length:=by
   have:=usedN_lt (A.used _ ho)
   rw[A.len2];exact this
  simp only[if_true,true_and]
  unfold atB
  rw[List.getD_eq_getElem?_getD,List.getD_eq_getElem?_getD]
  by_cases e:i=(rootI a.store o.a).toNat
  ·subst e;rw[List.getElem?_set_self hlt];simp
  ·rw[List.getElem?_set_ne (fun k=>e k.symm)];simp[e]
theorem note_len (a:Ag) (o:Cmd):(agNote a o).length=a.noted.length:=by
 unfold agNote
 split <;> simp
def agStep (a:Ag) (o:Cmd):Ag:=
 if possB a.store o && !(decide (o.op=1) && decide (40<=mFree a.store)) then ⟨mDo a.store o (mFree a.store),agGrow (mDo a.store o (mFree a.store)).cells.length a.old,agGrow (mDo a.store o (mFree a.store)).cells.length (agNote a o)⟩ else a
theorem agStep_store (a:Ag) (o:Cmd):(agStep a o).store=stepPl a.store o:=by
 unfold agStep stepPl
 split <;> rfl
theorem mDo_grows {h:Hp}{o:Cmd}{p:Nat}(hp:p<=h.cells.length):h.cells.length<=(mDo h o p).cells.length:=by
 by_cases h1:o.op=1
 ·unfold mDo
  rw[if_pos h1]
  exact (putCel_len (newCel o) hp).2.1
 ·rw[(mDo_len hp).2.1 h1];exact Nat.le_refl _
theorem agStep_ok {a:Ag}{o:Cmd}(A:AgOk a) (hc:cmdOk o=true) (hl:a.store.cells.length<40):AgOk (agStep a o):=by
 have gp:=stepPl_good A.good hc hl
 rw[<-agStep_store]at gp
 unfold agStep at gp⊢
 have hf:=mFree_le a.store
 cases hp:possB a.store o
 ·rw[hp]at gp
  simpa using A
 by_cases hz:(!(decide (o.op=1) && decide (40<=mFree a.store)))=true
 rotate_left
 ·have:(decide (o.op=1) && decide (40<=mFree a.store))=true:=by simpa using hz
  simp only[Bool.and_eq_true,decide_eq_true_eq]at this
  omega
 rw[hp,hz]at gp
 simp only[Bool.and_self,if_true]at gp
 rw[hz]
 simp only[Bool.and_self,if_true]
 have n1:=mDo_grows (o:=o) hf
 have n2:=(mDo_len (o:=o) hf).1
 refine⟨gp,grow_len (by rw[A.len1];exact n1) (by rw[A.len1];exact n2),grow_len (by rw[note_len,A.len2];exact n1) (by rw[note_len,A.len2];exact n2),fun i hi=>?_,fun i hi=>?_,fun i l hx hi hn r hr h0=>?_⟩
 ·rw[grow_at]at hi
  exact mDo_used A.good hp (A.used i hi)
 ·rw[grow_at]at hi⊢
  rcases (note_at A o i).1 hi with q|⟨q,e⟩
  ·exact A.sub i q
  ·unfold agMark at q
   simp only[Bool.and_eq_true]at q
   rw[e];exact q.1.1.2
 ·rw[grow_at]at hi hn⊢
  have hip:i≠mFree a.store:=fun e=>by
   have:=A.used i hi
   rw[e,mFree_not]at this
   cases this
  have hnn:atB a.noted i=false/\¬ (agMark a o=true/\i=(rootI a.store o.a).toNat):=by
   constructor
   ·cases q:atB a.noted i
    ·rfl
    ·rw[(note_at A o i).2 (.inl q)]at hn;cases hn
   ·intro q
    rw[(note_at A o i).2 (.inr q)]at hn;cases hn
  rcases mDo_refs A.good hp (.inl hip) hx with⟨l',h1,h2⟩|⟨h3,he,l',h1,h2⟩
  ·exact A.bar i l' h1 hi hnn.1 r (by rw[h2];exact hr) h0
  ·rcases h2 r hr with e|e
   ·cases q:atB a.old r.toNat
    ·refine absurd ⟨?_,he⟩ hnn.2
     subst e
     unfold agMark
     rw[<-he,hi,q,decide_eq_true h3,decide_eq_true h0]
     rfl
    ·rfl
   ·exact A.bar i l' h1 hi hnn.1 r e h0
noncomputable def aged (every:Nat):Manager Ag:=⟨⟨emptyH,[],[]⟩,fun a k o=>if (k+1) % every=0 then agYoung (agStep a o) else agStep a o,Ag.store,AgOk⟩
theorem aged_fine (every:Nat):(aged every).Fine where
 ok:=⟨emptyH_good,rfl,rfl,fun i hi=>by simp[aged,atB]at hi,fun i hi=>by simp[aged,atB]at hi,fun i l hx=>by simp[aged,emptyH]at hx⟩
 start:=rfl
 good:=fun _ A=>A.good
 step:=fun a k o A hc hl=>by
  have B:=agStep_ok A hc hl
  have hok:=good_iff.2 B.good
  show AgOk (if (k+1) % every=0 then agYoung (agStep a o) else agStep a o)/\(if (k+1) % every=0 then agYoung (agStep a o) else agStep a o).store.cells.length=(stepPl a.store o).cells.length/\∃ R f,Sim (stepPl a.store o) (if (k+1) % every=0 then agYoung (agStep a o) else agStep a o).store R f/\R=RchI (stepPl a.store o)
  rw[<-agStep_store]
  split
  ·exact⟨young_ok B,young_len _,_,_,young_sim B,rfl⟩
  ·exact⟨B,rfl,_,_,sim_refl hok,rfl⟩
structure Pt where
 store:Hp
 cols:List Int
 act:Bool
def colA (cs:List Int) (i:Nat):Int:=cs.getD i 0
def greyI (cs:List Int) (r:Int):List Int:=if 0<=r/\colA cs r.toNat=0 then cs.set r.toNat 1 else cs
def greys (cs:List Int) (rs:List Int):List Int:=rs.foldl greyI cs
theorem colA_set {cs:List Int}{k i:Nat}{x:Int}:colA (cs.set k x) i=if i=k/\k<cs.length then x else colA cs i:=by
 unfold colA
 rw[List.getD_eq_getElem?_getD,List.getD_eq_getElem?_getD,List.getElem?_set]
 by_cases e:k=i
 ·subst e
  by_cases hl:k<cs.length
  ·simp[hl]
  ·simp[hl]
 ·have:¬ (i=k/\k<cs.length):=fun q=>e q.1.symm
  rw[if_neg e,if_neg this]
theorem greyI_len (cs:List Int) (r:Int):(greyI cs r).length=cs.length:=by
 unfold greyI;split <;> simp
theorem greyI_at (cs:List Int) (r:Int) (i:Nat):colA (greyI cs r) i=colA cs i\/(colA cs i=0/\colA (greyI cs r) i=1/\0<=r/\i=r.toNat):=by
 unfold greyI
 split
 ·rename_i h
  rw[colA_set]
  split
  ·rename_i e
   exact .inr ⟨by rw[e.1];exact h.2,rfl,h.1,e.1⟩
  ·exact .inl rfl
 ·exact .inl rfl
theorem greyI_non {cs:List Int}{r:Int}{i:Nat}(h:colA cs i≠0):colA (greyI cs r) i=colA cs i:=by
 rcases greyI_at cs r i with e|⟨e,-⟩
 ·exact e
 ·exact absurd e h
theorem greyI_hit {cs:List Int}{r:Int}(h0:0<=r) (hl:r.toNat<cs.length):colA (greyI cs r) r.toNat≠0:=by
 unfold greyI
 split
 ·rw[colA_set,if_pos ⟨rfl,hl⟩];decide
 ·rename_i h
  intro e
  exact h ⟨h0,e⟩
theorem greys_len:∀ (rs:List Int) (cs:List Int),(greys cs rs).length=cs.length
 | [],_=>rfl
 | r::rs,cs=>by
  show (greys (greyI cs r) rs).length=_
  rw[greys_len rs,greyI_len]
theorem greys_non:∀ (rs:List Int) {cs:List Int}{i:Nat},colA cs i≠0->colA (greys cs rs) i=colA cs i
 | [],_,_,_=>rfl
 | r::rs,cs,i,h=>by
  show colA (greys (greyI cs r) rs) i=_
  have e:=greyI_non (r:=r) h
  rw[greys_non rs (by rw[e];exact h),e]
theorem greys_at:∀ (rs:List Int) (cs:List Int) (i:Nat),colA (greys cs rs) i=colA cs i\/(colA cs i=0/\colA (greys cs rs) i=1/\∃ r∈rs,0<=r/\i=r.toNat)
 | [],_,_=>.inl rfl
 | r::rs,cs,i=>by
  show colA (greys (greyI cs r) rs) i=_\/(_/\colA (greys (greyI cs r) rs) i=1/\_)
  rcases greyI_at cs r i with e|⟨e1,e2,e3,e4⟩
  ·rcases greys_at rs (greyI cs r) i with q|⟨q1,q2,x,hx,q3⟩
   ·exact .inl (q.trans e)
   ·exact .inr ⟨by rw[<-e];exact q1,q2,x,by simp[hx],q3⟩
  ·have hn:colA (greyI cs r) i≠0:=by rw[e2];decide
   exact .inr ⟨e1,(greys_non rs hn).trans e2,r,by simp,e3,e4⟩
theorem greys_hit:∀ (rs:List Int) {cs:List Int}{r:Int},r∈rs->0<=r->r.toNat<cs.length->colA (greys cs rs) r.toNat≠0
 | x::rs,cs,r,hr,h0,hl=>by
  show colA (greys (greyI cs x) rs) r.toNat≠0
  rcases List.mem_cons.1 hr with e|e
  ·subst e
   have hn:=greyI_hit (cs:=cs) h0 hl
   rw[greys_non rs hn];exact hn
  ·exact greys_hit rs e h0 (by rw[greyI_len];exact hl)
structure PtOk (p:Pt):Prop where
 good:Good p.store
 len:p.cols.length=p.store.cells.length
 range:∀ i,0<=colA p.cols i/\colA p.cols i<=2
 used:∀ i,colA p.cols i≠0->usedN p.store.cells i=true/\p.act=true
 black:∀ (i:Nat) (l:Cel),p.store.cells[i]?=some l->colA p.cols i=2->∀ r∈l.refs,0<=r->colA p.cols r.toNat≠0
 root:p.act=true->∀ r∈p.store.roots,0<=r->colA p.cols r.toNat≠0
def ptStart (p:Pt):Pt:=if p.act then p else ⟨p.store,greys p.cols p.store.roots,true⟩
theorem ptStart_ok {p:Pt}(P:PtOk p):PtOk (ptStart p):=by
 unfold ptStart
 cases ha:p.act
 rotate_left
 ·simpa using P
 have hz:∀ i,colA p.cols i=0:=fun i=>by
  by_cases e:colA p.cols i=0
  ·exact e
  ·have:=(P.used i e).2
   rw[ha]at this;cases this
 obtain⟨g1,g2⟩:=heapOk_leads (good_iff.2 P.good)
 simp only[Bool.false_eq_true,if_false]
 refine⟨P.good,by show (greys _ _).length=_;rw[greys_len];exact P.len,fun i=>?_,fun i hi=>⟨?_,rfl⟩,fun i l hx h2=>?_,fun _ r hr h0=>?_⟩
 ·rcases greys_at p.store.roots p.cols i with e|⟨-,e,-⟩
  ·show 0<=colA (greys _ _) i/\colA (greys _ _) i<=2
   rw[e];exact P.range i
  ·show 0<=colA (greys _ _) i/\colA (greys _ _) i<=2
   rw[e];decide
 ·rcases greys_at p.store.roots p.cols i with e|⟨-,-,r,hr,h0,e⟩
  ·exact absurd (e.trans (hz i)) hi
  ·rw[e];exact leadsB_used (g1 r hr) h0
 ·have h2':colA (greys p.cols p.store.roots) i=2:=h2
  rcases greys_at p.store.roots p.cols i with e|⟨-,e,-⟩
  ·rw[e,hz]at h2';cases h2'
  ·rw[e]at h2';cases h2'
 ·exact greys_hit _ hr h0 (by rw[P.len];exact usedN_lt (leadsB_used (g1 r hr) h0))
def ptNext (p:Pt):Nat:=p.cols.findIdx fun c=>c == 1
def ptStep (p:Pt):Pt:=if ptNext p<p.cols.length then ⟨p.store,(greys p.cols (p.store.cells.getD (ptNext p) noCel).refs).set (ptNext p) 2,p.act⟩ else p
theorem ptNext_at {p:Pt}(h:ptNext p<p.cols.length):colA p.cols (ptNext p)=1:=by
 have:=List.findIdx_getElem (p:=fun c:Int=>c == 1) (xs:=p.cols) (w:=h)
 unfold colA
 rw[List.getD_eq_getElem?_getD,List.getElem?_eq_getElem h]
 exact beq_iff_eq.1 this
theorem ptStep_ok {p:Pt}(P:PtOk p):PtOk (ptStep p):=by
 unfold ptStep
 by_cases h:ptNext p<p.cols.length
 rotate_left
 ·rw[if_neg h];exact P
 rw[if_pos h]
 have h1:=ptNext_at h
 obtain⟨g1,g2⟩:=heapOk_leads (good_iff.2 P.good)
 generalize ptNext p=k at *
 have hu:=P.used k (by rw[h1];decide)
 have hkl:=usedN_lt hu.1
 have hc:p.store.cells[k]?=some (p.store.cells.getD k noCel):=by rw[List.getD_eq_getElem?_getD,List.getElem?_eq_getElem hkl];rfl
 generalize p.store.cells.getD k noCel=l0 at *
 have at_:∀ i,colA ((greys p.cols l0.refs).set k 2) i=if i=k then 2 else colA (greys p.cols l0.refs) i:=fun i=>by
  rw[colA_set,greys_len]
  by_cases e:i=k
  ·rw[if_pos ⟨e,h⟩,if_pos e]
  ·rw[if_neg (fun q=>e q.1),if_neg e]
 have non:∀ i,colA (greys p.cols l0.refs) i≠0->colA ((greys p.cols l0.refs).set k 2) i≠0:=fun i hi=>by
  rw[at_]
  split
  ·decide
  ·exact hi
 refine⟨P.good,by show ((greys _ _).set _ _).length=_;rw[List.length_set,greys_len];exact P.len,fun i=>?_,fun i hi=>?_,fun i l hx h2 r hr h0=>?_,fun ha r hr h0=>?_⟩
 ·show 0<=colA ((greys p.cols l0.refs).set k 2) i/\colA ((greys p.cols l0.refs).set k 2) i<=2
  rw[at_]
  split
  ·decide
  ·rcases greys_at l0.refs p.cols i with e|⟨-,e,-⟩
   ·rw[e];exact P.range i
   ·rw[e];decide
 ·have hi':colA ((greys p.cols l0.refs).set k 2) i≠0:=hi
  rw[at_]at hi'
  by_cases e:i=k
  ·rw[e];exact hu
  ·rw[if_neg e]at hi'
   rcases greys_at l0.refs p.cols i with q|⟨-,-,r,hr,h0,q⟩
   ·rw[q]at hi';exact P.used i hi'
   ·rw[q];exact⟨leadsB_used (g2 k l0 hc r hr) h0,hu.2⟩
 ·have h2':colA ((greys p.cols l0.refs).set k 2) i=2:=h2
  refine non _ ?_
  rw[at_]at h2'
  by_cases e:i=k
  ·have:l=l0:=by
    have hx':p.store.cells[i]?=some l:=hx
    rw[e,hc]at hx'
    injection hx' with hx'
    exact hx'.symm
   rw[this]at hr
   exact greys_hit _ hr h0 (by rw[P.len];exact usedN_lt (leadsB_used (g2 k l0 hc r hr) h0))
  ·rw[if_neg e]at h2'
   have h3:colA p.cols i=2:=by
    rcases greys_at l0.refs p.cols i with q|⟨-,q,-⟩
    ·rw[<-q];exact h2'
    ·rw[q]at h2';cases h2'
   have:=P.black i l hx h3 r hr h0
   rw[greys_non _ this];exact this
 ·refine non _ ?_
  have:=P.root ha r hr h0
  rw[greys_non _ this];exact this
def ptLeft (cs:List Int):Nat:=cs.countP (· != 2)
theorem greyI_left (cs:List Int) (r:Int):ptLeft (greyI cs r)=ptLeft cs:=by
 unfold greyI
 split
 ·rename_i h
  by_cases hl:r.toNat<cs.length
  ·have h0:cs[r.toNat]=0:=by
    have:=h.2
    unfold colA at this
    rw[List.getD_eq_getElem?_getD,List.getElem?_eq_getElem hl]at this
    exact this
   have hp:0<cs.countP (· != 2):=List.countP_pos_iff.2 ⟨cs[r.toNat],List.getElem_mem hl,by rw[h0];decide⟩
   unfold ptLeft
   rw[List.countP_set hl,h0]
   simp
   omega
  ·rw[List.set_eq_of_length_le (by omega)]
 ·rfl
theorem greys_left:∀ (rs:List Int) (cs:List Int),ptLeft (greys cs rs)=ptLeft cs
 | [],_=>rfl
 | r::rs,cs=>by
  show ptLeft (greys (greyI cs r) rs)=_
  rw[greys_left rs,greyI_left]
theorem ptStep_left {p:Pt}(h:ptNext p<p.cols.length):ptLeft (ptStep p).cols+1=ptLeft p.cols:=by
 have h1:=ptNext_at h
 unfold ptStep
 rw[if_pos h]
 have hg:=greys_left (p.store.cells.getD (ptNext p) noCel).refs p.cols
 have hn:=greys_non (p.store.cells.getD (ptNext p) noCel).refs (cs:=p.cols) (i:=ptNext p) (by rw[h1];decide)
 have hl:=greys_len (p.store.cells.getD (ptNext p) noCel).refs p.cols
 generalize greys p.cols (p.store.cells.getD (ptNext p) noCel).refs=cs at *
 generalize ptNext p=k at *
 have hk:k<cs.length:=by omega
 have hv:cs[k]=1:=by
  rw[h1]at hn
  unfold colA at hn
  rw[List.getD_eq_getElem?_getD,List.getElem?_eq_getElem hk]at hn
  exact hn
 have hp:0<cs.countP (· != 2):=List.countP_pos_iff.2 ⟨cs[k],List.getElem_mem hk,by rw[hv];decide⟩
 show ptLeft (cs.set k 2)+1=_
 rw[<-hg]
 unfold ptLeft
 rw[List.countP_set hk,hv]
 simp
 omega
def ptIter:Nat->Pt->Pt
 | 0,p=>p
 | n+1,p=>ptIter n (ptStep p)
theorem ptStep_done {p:Pt}(h:¬ ptNext p<p.cols.length):ptStep p=p:=by unfold ptStep;rw[if_neg h]
theorem ptIter_done:∀ (n:Nat) {p:Pt},¬ ptNext p<p.cols.length->ptIter n p=p
 | 0,_,_=>rfl
 | n+1,p,h=>by rw[ptIter,ptStep_done h];exact ptIter_done n h
theorem ptIter_end:∀ (n:Nat) {p:Pt},ptLeft p.cols<=n->¬ ptNext (ptIter n p)<(ptIter n p).cols.length
 | 0,p,h=>fun hn=>by
  have:=ptStep_left hn
  simp only[ptIter]at this
  omega
 | n+1,p,h=>by
  by_cases hn:ptNext p<p.cols.length
  ·have:=ptStep_left hn
   exact ptIter_end n (by omega)
  ·rw[ptIter_done _ hn];exact hn
theorem ptIter_ok:∀ (n:Nat) {p:Pt},PtOk p->PtOk (ptIter n p)
 | 0,_,P=>P
 | n+1,_,P=>ptIter_ok n (ptStep_ok P)
theorem ptStep_same (p:Pt):(ptStep p).store=p.store/\(ptStep p).act=p.act/\(ptStep p).cols.length=p.cols.length:=by
 unfold ptStep
 split
 ·exact⟨rfl,rfl,by simp[greys_len]⟩
 ·exact⟨rfl,rfl,rfl⟩
theorem ptIter_same:∀ (n:Nat) (p:Pt),(ptIter n p).store=p.store/\(ptIter n p).act=p.act/\(ptIter n p).cols.length=p.cols.length
 | 0,_=>⟨rfl,rfl,rfl⟩
 | n+1,p=>by
  obtain⟨h1,h2,h3⟩:=ptIter_same n (ptStep p)
  obtain⟨k1,k2,k3⟩:=ptStep_same p
  exact⟨h1.trans k1,h2.trans k2,h3.trans k3⟩
def ptAll (p:Pt):Pt:=ptIter p.cols.length p
def ptMarks (p:Pt):List Bool:=p.cols.map (· != 0)
theorem ptMarks_at (p:Pt) (i:Nat):atB (ptMarks p) i=(colA p.cols i != 0):=by
 unfold atB ptMarks colA
 rw[List.getD_eq_getElem?_getD,List.getD_eq_getElem?_getD,List.getElem?_map]
 cases p.cols[i]? <;> rfl
theorem ptAll_keeps {p:Pt}(P:PtOk p) (ha:p.act=true):Keeps p.store (ptMarks (ptAll p)):=by
 have Q:PtOk (ptAll p):=ptIter_ok _ P
 have he:=ptIter_end p.cols.length (p:=p) (List.countP_le_length)
 obtain⟨s1,s2,s3⟩:=ptIter_same p.cols.length p
 have noGrey:∀ i,colA (ptAll p).cols i≠1:=fun i h1=>by
  refine he ?_
  have hl:i<(ptAll p).cols.length:=by
   rcases Nat.lt_or_ge i (ptAll p).cols.length with q|q
   ·exact q
   ·unfold colA at h1
    rw[List.getD_eq_getElem?_getD,List.getElem?_eq_none q]at h1
    simp at h1
  refine List.findIdx_lt_length.2 ⟨(ptAll p).cols[i],List.getElem_mem hl,?_⟩
  unfold colA at h1
  rw[List.getD_eq_getElem?_getD,List.getElem?_eq_getElem hl]at h1
  exact beq_iff_eq.2 h1
 have e:(ptAll p).store=p.store:=s1
 have black:∀ i,colA (ptAll p).cols i≠0->colA (ptAll p).cols i=2:=fun i hi=>by
  have:=Q.range i
  have:=noGrey i
  omega
 refine⟨by unfold ptMarks;rw[List.length_map,Q.len,e],fun r hr h0=>?_,fun k l hl hk r hr h0=>?_⟩
 ·rw[ptMarks_at]
  have:=Q.root (s2.trans ha) r (by rw[e];exact hr) h0
  simpa using this
 ·rw[ptMarks_at]at hk⊢
  have hk':colA (ptAll p).cols k≠0:=by simpa using hk
  have:=Q.black k l (by rw[e];exact hl) (black k hk') r hr h0
  simpa using this
def ptFinish (p:Pt):Pt:=if p.act then ⟨mDrop p.store (deadL (ptMarks (ptAll p))),List.replicate p.cols.length 0,false⟩ else p
theorem colA_zero (n i:Nat):colA (List.replicate n 0) i=0:=by
 unfold colA
 rw[List.getD_eq_getElem?_getD,List.getElem?_replicate]
 split <;> rfl
theorem ptFinish_ok {p:Pt}(P:PtOk p):PtOk (ptFinish p)/\(∃ R f,Sim p.store (ptFinish p).store R f/\R=RchI p.store)/\(ptFinish p).store.cells.length=p.store.cells.length:=by
 unfold ptFinish
 cases ha:p.act
 ·simp only[Bool.false_eq_true,if_false]
  exact⟨P,⟨_,_,sim_refl (good_iff.2 P.good),rfl⟩,trivial⟩
 ·simp only[if_true]
  have K:=ptAll_keeps P ha
  have h0:=good_iff.2 P.good
  refine⟨⟨good_iff.1 (K.heap h0),?_,fun i=>?_,fun i hi=>?_,fun i l hx h2=>?_,fun h=>?_⟩,⟨_,_,K.sim h0,rfl⟩,sweep_len _ _⟩
  ·show (List.replicate _ _).length=(mDrop _ _).cells.length
   rw[List.length_replicate,sweep_len,P.len]
  ·show 0<=colA (List.replicate _ _) i/\colA (List.replicate _ _) i<=2
   rw[colA_zero];decide
  ·exact absurd (colA_zero _ i) hi
  ·have:colA (List.replicate p.cols.length 0) i=2:=h2
   rw[colA_zero]at this;cases this
  ·cases h
def ptGrow (n:Nat) (l:List Int):List Int:=if l.length<n then l++[0] else l
theorem ptGrow_at (n:Nat) (l:List Int) (i:Nat):colA (ptGrow n l) i=colA l i:=by
 unfold ptGrow
 split
 ·unfold colA
  rw[List.getD_eq_getElem?_getD,List.getD_eq_getElem?_getD]
  rcases Nat.lt_trichotomy i l.length with q|q|q
  ·rw[List.getElem?_append_left q]
  ·subst q;simp
  ·rw[List.getElem?_eq_none (by simp;omega),List.getElem?_eq_none (by omega)]
 ·rfl
theorem ptGrow_len {n:Nat}{l:List Int}(h1:l.length<=n) (h2:n<=l.length+1):(ptGrow n l).length=n:=by
 unfold ptGrow
 split
 ·simp;omega
 ·omega
def ptTo (h:Hp) (o:Cmd) (p:Nat):Int:=if o.op=1\/o.op=2\/o.op=4 then rootI (mDo h o p) o.a else if o.op=3 then rootI h o.b else -1
def ptCmd (p:Pt) (o:Cmd):Pt:=
 if possB p.store o && !(decide (o.op=1) && decide (40<=mFree p.store)) then ⟨mDo p.store o (mFree p.store),if p.act then greyI (ptGrow (mDo p.store o (mFree p.store)).cells.length p.cols) (ptTo p.store o (mFree p.store)) else ptGrow (mDo p.store o (mFree p.store)).cells.length p.cols,p.act⟩ else p
theorem ptCmd_store (p:Pt) (o:Cmd):(ptCmd p o).store=stepPl p.store o:=by
 unfold ptCmd stepPl
 split <;> rfl
theorem mDo_roots {h:Hp}{o:Cmd}{p:Nat}(hr4:h.roots.length=4) (hc:cmdOk o=true) {r:Int}(hr:r∈(mDo h o p).roots) (h0:0<=r):r∈h.roots\/((o.op=1\/o.op=2\/o.op=4)/\r=rootI (mDo h o p) o.a):=by
 have ha:=cmd_a hc
 have hl:o.a.toNat<h.roots.length:=by omega
 have set_:∀ x:Int,r∈h.roots.set o.a.toNat x->r∈h.roots\/r=x:=fun x hx=>(mem_set' hx).elim .inr .inl
 have get_:∀ x:Int,(h.roots.set o.a.toNat x).getD o.a.toNat (-1)=x:=fun x=>by
  rw[List.getD_eq_getElem?_getD,List.getElem?_set_self hl];rfl
 unfold mDo at hr⊢
 by_cases h1:o.op=1
 ·rw[if_pos h1]at hr⊢
  rcases set_ _ hr with e|e
  ·exact .inl e
  ·exact .inr ⟨.inl h1,by show r=List.getD (h.roots.set _ _) _ _;rw[get_];exact e⟩
 rw[if_neg h1]at hr⊢
 by_cases h2:o.op=2
 ·rw[if_pos h2]at hr⊢
  rcases set_ _ hr with e|e
  ·exact .inl e
  ·exact .inr ⟨.inr (.inl h2),by show r=List.getD (h.roots.set _ _) _ _;rw[get_];exact e⟩
 rw[if_neg h2]at hr⊢
 by_cases h3:o.op=3
 ·rw[if_pos h3]at hr;exact .inl hr
 rw[if_neg h3]at hr⊢
 by_cases h4:o.op=4
 ·rw[if_pos h4]at hr⊢
  rcases set_ _ hr with e|e
  ·exact .inl e
  ·exact .inr ⟨.inr (.inr h4),by show r=List.getD (h.roots.set _ _) _ _;rw[get_];exact e⟩
 rw[if_neg h4]at hr⊢
 by_cases h5:o.op=5
 ·rw[if_pos h5]at hr
  rcases set_ _ hr with e|e
  ·exact .inl e
  ·omega
 rw[if_neg h5]at hr⊢
 by_cases h6:o.op=6
 ·rw[if_pos h6]at hr;exact .inl hr
 ·rw[if_neg h6]at hr;exact .inl hr
theorem ptCmd_ok {p:Pt}{o:Cmd}(P:PtOk p) (hc:cmdOk o=true) (hl:p.store.cells.length<40):PtOk (ptCmd p o):=by
 have gp:=stepPl_good P.good hc hl
 rw[<-ptCmd_store]at gp
 unfold ptCmd at gp⊢
 have hf:=mFree_le p.store
 cases hp:possB p.store o
 ·simpa using P
 by_cases hz:(!(decide (o.op=1) && decide (40<=mFree p.store)))=true
 rotate_left
 ·have:(decide (o.op=1) && decide (40<=mFree p.store))=true:=by simpa using hz
  simp only[Bool.and_eq_true,decide_eq_true_eq]at this
  omega
 rw[hp,hz]at gp
 simp only[Bool.and_self,if_true]at gp
 rw[hz]
 simp only[Bool.and_self,if_true]
 have n1:=mDo_grows (o:=o) hf
 have n2:=(mDo_len (o:=o) hf).1
 have glen:(ptGrow (mDo p.store o (mFree p.store)).cells.length p.cols).length=(mDo p.store o (mFree p.store)).cells.length:=ptGrow_len (by rw[P.len];exact n1) (by rw[P.len];exact n2)
 have gat:=ptGrow_at (mDo p.store o (mFree p.store)).cells.length p.cols
 obtain⟨g1,g2⟩:=heapOk_leads (good_iff.2 gp)
 have usedTo_:0<=ptTo p.store o (mFree p.store)->usedN (mDo p.store o (mFree p.store)).cells (ptTo p.store o (mFree p.store)).toNat=true:=fun h0=>by
  unfold ptTo at h0⊢
  split at h0
  ·rename_i e
   rw[if_pos e]
   exact leadsB_used (gp.rootI _) h0
  ·split at h0
   ·rename_i e1 e2
    rw[if_neg e1,if_pos e2]
    exact mDo_used P.good hp (leadsB_used (P.good.rootI _) h0)
   ·omega
 cases ha:p.act
 ·have hz0:∀ i,colA p.cols i=0:=fun i=>by
   by_cases e:colA p.cols i=0
   ·exact e
   ·have:=(P.used i e).2
    rw[ha]at this;cases this
  simp only[Bool.false_eq_true,if_false]
  refine⟨gp,glen,fun i=>?_,fun i hi=>?_,fun i l hx h2=>?_,fun h=>?_⟩
  ·show 0<=colA (ptGrow _ _) i/\colA (ptGrow _ _) i<=2
   rw[gat,hz0];decide
  ·exact absurd ((gat i).trans (hz0 i)) hi
  ·have:colA (ptGrow (mDo p.store o (mFree p.store)).cells.length p.cols) i=2:=h2
   rw[gat,hz0]at this;cases this
  ·cases h
 ·simp only[if_true]
  generalize hG:ptGrow (mDo p.store o (mFree p.store)).cells.length p.cols=G at *
  generalize hto:ptTo p.store o (mFree p.store)=tq at *
  have non:∀ i,colA p.cols i≠0->colA (greyI G tq) i≠0:=fun i hi=>by
   rw[greyI_non (by rw[gat];exact hi),gat];exact hi
  refine⟨gp,by show (greyI _ _).length=_;rw[greyI_len];exact glen,fun i=>?_,fun i hi=>?_,fun i l hx h2 r hr h0=>?_,fun _ r hr h0=>?_⟩
  ·show 0<=colA (greyI _ _) i/\colA (greyI _ _) i<=2
   rcases greyI_at G tq i with e|⟨-,e,-⟩
   ·rw[e,gat];exact P.range i
   ·rw[e];decide
  ·rcases greyI_at G tq i with e|⟨-,-,h0,e⟩
   ·have hi':colA (greyI G tq) i≠0:=hi
    rw[e,gat]at hi'
    exact⟨mDo_used P.good hp (P.used i hi').1,rfl⟩
   ·rw[e];exact⟨usedTo_ h0,rfl⟩
  ·have h2':colA (greyI G tq) i=2:=h2
   have h3:colA p.cols i=2:=by
    rcases greyI_at G tq i with e|⟨-,e,-⟩
    ·rw[<-gat,<-e];exact h2'
    ·rw[e]at h2';cases h2'
   have hip:i≠mFree p.store:=fun e=>by
    have:=(P.used i (by rw[h3];decide)).1
    rw[e,mFree_not]at this
    cases this
   rcases mDo_refs P.good hp (.inl hip) hx with⟨l',k1,k2⟩|⟨k3,-,l',k1,k2⟩
   ·exact non _ (P.black i l' k1 h3 r (by rw[k2];exact hr) h0)
   ·rcases k2 r hr with e|e
    ·have et:tq=r:=by
      rw[<-hto,e]
      unfold ptTo
      rw[if_neg (by omega),if_pos k3]
     rw[et]
     exact greyI_hit h0 (by rw[glen];exact usedN_lt (leadsB_used (g2 i l hx r hr) h0))
    ·exact non _ (P.black i l' k1 h3 r e h0)
  ·rcases mDo_roots P.good.roots hc hr h0 with e|⟨k1,e⟩
   ·exact non _ (P.root ha r e h0)
   ·have et:tq=r:=by
     rw[<-hto,e]
     unfold ptTo
     rw[if_pos k1]
    rw[et]
    exact greyI_hit h0 (by rw[glen];exact usedN_lt (leadsB_used (g1 r hr) h0))
def ptPre (k:Nat) (p:Pt):Pt:=if k % 3=0 then ptStep (ptStart p) else if k % 3=1 then ptStart p else ptFinish p
theorem ptStart_store (p:Pt):(ptStart p).store=p.store:=by
 unfold ptStart
 split <;> rfl
theorem ptPre_ok {k:Nat}{p:Pt}(P:PtOk p):PtOk (ptPre k p)/\(∃ R f,Sim p.store (ptPre k p).store R f/\R=RchI p.store)/\(ptPre k p).store.cells.length=p.store.cells.length:=by
 have h0:=good_iff.2 P.good
 unfold ptPre
 split
 ·have e:(ptStep (ptStart p)).store=p.store:=(ptStep_same _).1.trans (ptStart_store p)
  refine⟨ptStep_ok (ptStart_ok P),?_,by rw[e]⟩
  rw[e]
  exact⟨_,_,sim_refl h0,rfl⟩
 split
 ·refine⟨ptStart_ok P,?_,by rw[ptStart_store]⟩
  rw[ptStart_store]
  exact⟨_,_,sim_refl h0,rfl⟩
 ·exact ptFinish_ok P
def runPt:Nat->Pt->List Cmd->Pt
 | _,p,[]=>p
 | k,p,o::os=>runPt (k+1) (ptCmd (ptPre k p) o) os
theorem runPt_sim:∀ (os:List Cmd) (k:Nat) (h0:Hp) (p:Pt) (R:Int->Prop) (f:Int->Int),Good h0->PtOk p->Sim h0 p.store R f->(∀ o∈os,cmdOk o=true)->h0.cells.length+os.length<=40->p.store.cells.length+os.length<=40 →
  PtOk (runPt k p os)/\∃ R' f',Sim (os.foldl mStep h0) (runPt k p os).store R' f'
 | [],k,h0,p,R,f,g0,P,s,_,_,_=>⟨P,R,f,s⟩
 | o::os,k,h0,p,R,f,g0,P,s,hc,h1,h2=>by
  simp only[List.length_cons]at h1 h2
  have hco:=hc o (by simp)
  obtain⟨Q,⟨R1,f1,s1,rfl⟩,l1⟩:=ptPre_ok (k:=k) P
  have s2:=s.trans s1 (good_iff.2 g0)
  obtain⟨⟨R3,f3,s3⟩,g3,l3⟩:=stepPl_sim g0 Q.good s2 hco (by omega) (by omega)
  have Q2:=ptCmd_ok Q hco (by omega)
  have hlen:=mStep_len (h:=h0) (o:=o)
  rw[<-ptCmd_store]at s3 l3
  exact runPt_sim os (k+1) (mStep h0 o) _ _ _ (mStep_good g0 hco) Q2 s3 (fun q hq=>hc q (by simp[hq])) (by omega) (by omega)
def mPaint (cs:List Cmd):Hp:=if cmdsOk cs then (ptFinish (runPt 0 ⟨emptyH,[],false⟩ cs)).store else ⟨[],[]⟩
theorem ptEmpty_ok:PtOk ⟨emptyH,[],false⟩ where
 good:=emptyH_good
 len:=rfl
 range:=fun i=>by simp[colA]
 used:=fun i hi=>by simp[colA]at hi
 black:=fun i l hx=>by simp[emptyH]at hx
 root:=fun h=>by cases h
theorem paint_view {cs:List Cmd}(hc:cmdsOk cs=true):heapOk (mPaint cs)=true/\mView (mPaint cs)=mView (mRun cs):=by
 obtain⟨h1,h2⟩:=cmdsOk_iff.1 hc
 obtain⟨P,R,f,s⟩:=runPt_sim cs 0 emptyH ⟨emptyH,[],false⟩ _ _ emptyH_good ptEmpty_ok (sim_refl (good_iff.2 emptyH_good)) h1 (by show 0+cs.length<=40;omega) (by show 0+cs.length<=40;omega)
 obtain⟨Q,⟨R1,f1,s1,rfl⟩,-⟩:=ptFinish_ok P
 have hg:=good_iff.2 (runTo_good cs h1)
 have s2:=s.trans s1 hg
 have e:mPaint cs=(ptFinish (runPt 0 ⟨emptyH,[],false⟩ cs)).store:=by unfold mPaint;rw[if_pos hc]
 rw[e,mRun_all hc]
 exact⟨good_iff.2 Q.good,view_same s2.toIso hg (good_iff.2 Q.good)⟩
section
theorem idx_get:∀ (o:List Int) (r:Int),r∈o->o[o.idxOf r]?=some r
 | [],r,h=>by simp at h
 | a::o,r,h=>by
  rw[List.idxOf_cons]
  by_cases e:a=r
  ·rw[e];simp
  ·rw[beq_eq_false_iff_ne.2 e]
   have hm:r∈o:=by
    rcases List.mem_cons.1 h with h|h
    ·exact absurd h.symm e
    ·exact h
   simpa using idx_get o r hm
theorem nameI_in {o:List Int}{r:Int}(h:r∈o):0<=nameI o r/\(nameI o r).toNat<o.length/\o[(nameI o r).toNat]?=some r:=by
 unfold nameI
 rw[if_pos h,Int.toNat_natCast]
 have:=idx_get o r h
 exact⟨by omega,(List.getElem?_eq_some_iff.1 this).1,this⟩
theorem nameI_out {o:List Int}{r:Int}(h:r ∉ o):nameI o r=-1:=by unfold nameI;rw[if_neg h]
theorem nameI_inj {o:List Int}{a b:Int}(ha:a∈o) (hb:b∈o) (h:nameI o a=nameI o b):a=b:=by
 have h1:=(nameI_in ha).2.2
 have h2:=(nameI_in hb).2.2
 rw[h,h2]at h1
 injection h1 with h1
 exact h1.symm
def copyCel (h:Hp) (o:List Int) (c:Int):Cel:=⟨true,(cel h.cells c).data,(cel h.cells c).refs.map (nameI o)⟩
def gath (h:Hp) (o:List Int):Hp:=⟨o.map (copyCel h o),h.roots.map (nameI o)⟩
noncomputable def mCopy (h:Hp):Hp:=if heapOk h then gath h (ordH h) else ⟨[],[]⟩
theorem mCopy_yes {h:Hp}(h0:heapOk h=true):mCopy h=gath h (ordH h):=by simp[mCopy,h0]
section
variable {h:Hp} {o:List Int}
theorem name_up (hm:∀ c,c∈o ↔ RchI h c) {rs:List Int}(h1:∀ r∈rs,leadsB h.cells r=true):rs.map (nameI o)=rs.map (up (nameI o)):=by
 refine List.map_congr_left fun r hr=>?_
 rcases leadsB_iff.1 (h1 r hr) with e|⟨hp,-⟩
 ·rw[up_neg (by omega),nameI_out,e]
  intro k
  have:=((hm r).1 k).1
  omega
 ·rw[up_pos hp]
theorem gath_cel {c:Int}(hc:c∈o):cel (gath h o).cells (nameI o c)=copyCel h o c:=by
 unfold cel
 rw[List.getD_eq_getElem?_getD]
 show ((o.map (copyCel h o))[(nameI o c).toNat]?).getD noCel=_
 rw[List.getElem?_map,(nameI_in hc).2.2];rfl
theorem rchI_cel (h0:heapOk h=true) {c:Int}(hc:RchI h c):(cel h.cells c).used=true/\cellOk h.cells (cel h.cells c)=true:=by
 have hu:=rchI_used hc
 refine⟨hu,?_⟩
 have hl:=usedN_lt hu
 have hg:=good_iff.1 h0
 refine hg.cell _ ?_
 unfold cel
 rw[List.getD_eq_getElem?_getD,List.getElem?_eq_getElem hl]
 exact List.getElem_mem hl
theorem cell_leads (h0:heapOk h=true) (c:Int):∀ r∈(cel h.cells c).refs,leadsB h.cells r=true:=fun r hr=>by
 obtain⟨l,hl,hm,-⟩:=cel_refs hr
 exact (heapOk_leads h0).2 _ l hl r hm
theorem gath_sim (h0:heapOk h=true) (hm:∀ c,c∈o ↔ RchI h c):Sim h (gath h o) (RchI h) (nameI o):=by
 have key:∀ c,RchI h c->cel (gath h o).cells (nameI o c)=copyCel h o c:=fun c hc=>gath_cel ((hm c).2 hc)
 refine { root:=rchI_root h0,ref:=rchI_ref h0,pos:=fun c hc=>⟨hc.1,(nameI_in ((hm c).2 hc)).1⟩,inj:=fun a b ha hb e=>nameI_inj ((hm a).2 ha) ((hm b).2 hb) e,roots:=name_up hm (heapOk_leads h0).1,data:=fun c hc=>?_,refs:=fun c hc=>?_,use:=fun c hc=>rchI_used hc,use':=fun c hc=>?_ }
 ·rw[key c hc];rfl
 ·rw[key c hc]
  exact name_up hm (cell_leads h0 c)
 ·rw[usedN_cel,key c hc];rfl
theorem gath_ok (h0:heapOk h=true) (hl:o.length<=40) (hm:∀ c,c∈o ↔ RchI h c):heapOk (gath h o)=true:=by
 have g:=good_iff.1 h0
 have lead:∀ r,leadsB h.cells r=true->(0<=r->r∈o)->leadsB (gath h o).cells (nameI o r)=true:=fun r hr hro=>by
  rcases leadsB_iff.1 hr with e|⟨hp,-⟩
  ·rw[nameI_out]
   ·exact leadsB_nil _
   ·intro k
    have:=((hm r).1 k).1
    omega
  ·rw[leadsB_iff]
   refine .inr ⟨(nameI_in (hro hp)).1,?_⟩
   rw[usedN_cel,gath_cel (hro hp)];rfl
 rw[good_iff]
 refine⟨by simpa [gath] using hl,by simpa [gath] using g.roots,fun c hc=>?_,fun r hr=>?_⟩
 ·obtain⟨x,hx,rfl⟩:=List.mem_map.1 hc
  have hxr:=(hm x).1 hx
  obtain⟨k1,k2⟩:=rchI_cel h0 hxr
  rw[cellOk_iff]at k2⊢
  rcases k2 with⟨-,q2,q3,q4,q5⟩|⟨q,-⟩
  ·refine .inl ⟨rfl,fun r hr=>?_,q3,q4,by simpa [copyCel] using q5⟩
   obtain⟨y,hy,rfl⟩:=List.mem_map.1 hr
   exact lead y (q2 y hy) fun hp=>(hm y).2 (rchI_ref h0 x hxr y hy hp)
  ·rw[k1]at q;cases q
 ·obtain⟨y,hy,rfl⟩:=List.mem_map.1 hr
  exact lead y (g.lead y hy) fun hp=>(hm y).2 (rchI_root h0 y hy hp)
end
theorem copy_ok {h:Hp}(h0:heapOk h=true):heapOk (mCopy h)=true:=by
 rw[mCopy_yes h0]
 refine gath_ok h0 ?_ fun c=>mem_ordH h0
 have:=ordH_len h0
 have:=(heapOk_small h0).1
 omega
theorem copy_sim {h:Hp}(h0:heapOk h=true):Sim h (mCopy h) (RchI h) (nameI (ordH h)):=by
 rw[mCopy_yes h0]
 exact gath_sim h0 fun c=>mem_ordH h0
theorem copy_len {h:Hp}(h0:heapOk h=true):(mCopy h).cells.length=liveN h:=by
 rw[mCopy_yes h0]
 simp[gath,liveN]
def runCp (mv:Hp->Hp) (L:Nat):Hp->List Cmd->Hp × Bool
 | h,[]=>(h,true)
 | h,o::os=>if o.op=1/\L<=h.cells.length then (if L<=(mv h).cells.length then (mv h,false) else runCp mv L (mStep (mv h) o) os) else runCp mv L (mStep h o) os
structure Mover (mv:Hp->Hp):Prop where
 ok:∀ h,heapOk h=true->heapOk (mv h)=true
 sim:∀ h,heapOk h=true->∃ g,Sim h (mv h) (RchI h) g
 len:∀ h,heapOk h=true->(mv h).cells.length=liveN h
theorem copy_mover:Mover mCopy:=⟨fun _ h0=>copy_ok h0,fun _ h0=>⟨_,copy_sim h0⟩,fun _ h0=>copy_len h0⟩
theorem mStep_is' {h:Hp}{o:Cmd}(g:Good h) (hc:cmdOk o=true) (hl:o.op=1->h.cells.length<40):mStep h o=if possB h o then mDo h o h.cells.length else h:=by
 by_cases h1:o.op=1
 ·exact mStep_is g hc (hl h1)
 ·have e:stepOk h o=possB h o:=by
   unfold stepOk
   rw[decide_eq_false h1]
   simp
  unfold mStep
  rw[good_iff.2 g,hc,e]
  simp
theorem step_sim {h0 h:Hp}{R:Int->Prop}{f:Int->Int}{o:Cmd}(g0:Good h0) (g:Good h) (s:Sim h0 h R f) (hc:cmdOk o=true) (h40:h0.cells.length<40) (hl:o.op=1->h.cells.length<40):(∃ R' f',Sim (mStep h0 o) (mStep h o) R' f')/\Good (mStep h o)/\(o.op≠1->(mStep h o).cells.length=h.cells.length):=by
 refine⟨?_,mStep_good g hc,fun h1=>?_⟩
 ·rw[mStep_is g0 hc h40,mStep_is' g hc hl]
  have hp:=s.poss o
  cases hpb:possB h o
  ·rw[hpb]at hp
   rw[<-hp]
   exact⟨R,f,by simpa using s⟩
  ·rw[hpb]at hp
   rw[<-hp]
   simp only[if_true]
   exact s.step hp.symm fun _=>⟨Nat.le_refl _,Nat.le_refl _,usedN_end _,usedN_end _⟩
 ·rw[mStep_is' g hc hl]
  split
  ·exact (mDo_len (Nat.le_refl _)).2.1 h1
  ·rfl
theorem runCp_sim {mv:Hp->Hp}(M:Mover mv) {L:Nat}(hL:L<=40):∀ (os:List Cmd) (h0 h:Hp) (R:Int->Prop) (f:Int->Int),Good h0->Good h->Sim h0 h R f->h.cells.length<=L->(∀ o∈os,cmdOk o=true)->h0.cells.length+os.length<=40 →
  Good (runCp mv L h os).1/\(runCp mv L h os).1.cells.length<=L/\((runCp mv L h os).2=true->∃ R' f',Sim (os.foldl mStep h0) (runCp mv L h os).1 R' f')/\((runCp mv L h os).2=true ↔ Fits L h0 os)
 | [],h0,h,R,f,g0,g,s,hl,_,_=>⟨g,hl,fun _=>⟨R,f,s⟩,⟨fun _ i o ho=>by simp at ho,fun _=>rfl⟩⟩
 | o::os,h0,h,R,f,g0,g,s,hl,hc,h40=>by
  simp only[List.length_cons]at h40
  have hco:=hc o (by simp)
  have hok:=good_iff.2 g
  have hok0:=good_iff.2 g0
  have hlen:=mStep_len (h:=h0) (o:=o)
  rw[fits_cons]
  have go:∀ (x:Hp) (R:Int->Prop) (f:Int->Int),Good x->Sim h0 x R f->x.cells.length<=L->(o.op=1->x.cells.length<L) →
    Good (runCp mv L (mStep x o) os).1/\(runCp mv L (mStep x o) os).1.cells.length<=L/\((runCp mv L (mStep x o) os).2=true->∃ R' f',Sim (os.foldl mStep (mStep h0 o)) (runCp mv L (mStep x o) os).1 R' f')/\((runCp mv L (mStep x o) os).2=true ↔ (o.op=1->liveN h0<L)/\Fits L (mStep h0 o) os):=fun x R f gx sx hlx hnx=>by
   obtain⟨⟨R',f',s'⟩,k2,k3⟩:=step_sim g0 gx sx hco (by omega) fun h1=>by have:=hnx h1;omega
   have hl':(mStep x o).cells.length<=L:=by
    by_cases h1:o.op=1
    ·have:=mStep_len (h:=x) (o:=o)
     have:=hnx h1
     omega
    ·rw[k3 h1];exact hlx
   obtain⟨j1,j2,j3,j4⟩:=runCp_sim M hL os (mStep h0 o) (mStep x o) R' f' (mStep_good g0 hco) k2 s' hl' (fun p hp=>hc p (by simp[hp])) (by omega)
   refine⟨j1,j2,j3,j4.trans ⟨fun k=>⟨fun h1=>?_,k⟩,fun k=>k.2⟩⟩
   have h2:=live_le (good_iff.2 gx)
   rw[sx.toIso.live]at h2
   have:=hnx h1
   omega
  simp only[runCp]
  by_cases hx:o.op=1/\L<=h.cells.length
  ·rw[if_pos hx]
   obtain⟨gm,sm⟩:=M.sim h hok
   have s2:=s.trans sm hok0
   have gx:=good_iff.1 (M.ok h hok)
   have hle:=M.len h hok
   have hlv:=live_le hok
   by_cases hf:L<=(mv h).cells.length
   ·rw[if_pos hf]
    refine⟨gx,by show (mv h).cells.length<=L;omega,fun k=>by simp at k,⟨fun k=>by simp at k,fun k=>?_⟩⟩
    have h2:=k.1 hx.1
    rw[s.toIso.live]at hle
    omega
   ·rw[if_neg hf]
    exact go _ _ _ gx s2 (by omega) fun _=>by omega
  ·rw[if_neg hx]
   exact go h R f g s hl fun h1=>by
    rcases Nat.lt_or_ge h.cells.length L with q|q
    ·exact q
    ·exact absurd ⟨h1,q⟩ hx
section
variable {cs:List Cmd} {L:Nat}
theorem runCp_facts {mv:Hp->Hp}(M:Mover mv) (hc:cmdsOk cs=true) (hL:L<=40):heapOk (runCp mv L emptyH cs).1=true/\(runCp mv L emptyH cs).1.cells.length<=L/\((runCp mv L emptyH cs).2=true->mView (runCp mv L emptyH cs).1=mView (mRun cs))/\((runCp mv L emptyH cs).2=true ↔ Fits L emptyH cs):=by
 obtain⟨h1,h2⟩:=cmdsOk_iff.1 hc
 have e:mRun cs=cs.foldl mStep emptyH:=by unfold mRun;rw[if_pos hc];rfl
 obtain⟨k1,k2,k3,k4⟩:=runCp_sim M hL cs emptyH emptyH _ _ emptyH_good emptyH_good (sim_refl (good_iff.2 emptyH_good)) (Nat.zero_le _) h1 (by show 0+cs.length<=40;omega)
 refine⟨good_iff.2 k1,k2,fun h=>?_,k4⟩
 obtain⟨R,f,s⟩:=k3 h
 rw[<-e]at s
 exact view_same s.toIso (run_ok hc) (good_iff.2 k1)
end
end
section
noncomputable def mRunCpH (mv:Hp->Hp) (cs:List Cmd) (L:Int):Hp:=if cmdsOk cs && inR L 1 40 then (runCp mv L.toNat emptyH cs).1 else ⟨[],[]⟩
noncomputable def mRunCpB (mv:Hp->Hp) (cs:List Cmd) (L:Int):Bool:=cmdsOk cs && inR L 1 40 && (runCp mv L.toNat emptyH cs).2
section
variable {mv:Hp->Hp} {cs:List Cmd} {L:Nat} {LI:Int}
theorem cpB_no1 (h:cmdsOk cs=false):mRunCpB mv cs LI=false:=by simp[mRunCpB,h]
theorem cpB_no2 (h:inR LI 1 40=false):mRunCpB mv cs LI=false:=by simp[mRunCpB,h]
theorem cpH_no1 (h:cmdsOk cs=false):mRunCpH mv cs LI=⟨[],[]⟩:=by simp[mRunCpH,h]
theorem cpH_no2 (h:inR LI 1 40=false):mRunCpH mv cs LI=⟨[],[]⟩:=by simp[mRunCpH,h]
theorem cpB_yes (h:cmdsOk cs=true) (h1:1<=L) (h2:L<=40):mRunCpB mv cs L=(runCp mv L emptyH cs).2:=by simp[mRunCpB,h,inR_L h1 h2]
theorem cpH_yes (h:cmdsOk cs=true) (h1:1<=L) (h2:L<=40):mRunCpH mv cs L=(runCp mv L emptyH cs).1:=by simp[mRunCpH,h,inR_L h1 h2]
theorem cp_facts (M:Mover mv) (h:cmdsOk cs=true) (h1:1<=L) (h2:L<=40):heapOk (mRunCpH mv cs L)=true/\(mRunCpH mv cs L).cells.length<=L/\(mRunCpB mv cs L=true->mView (mRunCpH mv cs L)=mView (mRun cs))/\(mRunCpB mv cs L=false->L<=peakTo cs cs.length):=by
 obtain⟨k1,k2,k3,k4⟩:=runCp_facts (L:=L) M h h2
 rw[cpH_yes h h1 h2,cpB_yes h h1 h2]
 refine⟨k1,k2,k3,fun hb=>fits_not fun hf=>?_⟩
 rw[k4.2 hf]at hb
 cases hb
end
section
variable {mv:Hp->Hp} {L:Nat} {h:Hp} {cs:List Cmd} {k:Nat} {p:Cmd} {r:Hp × Bool}
theorem runCp_cons (hx:Hid (cs[k]?=some p)):runCp mv L h (cs.drop k)=if p.op=1/\L<=h.cells.length then (if L<=(mv h).cells.length then (mv h,false) else runCp mv L (mStep (mv h) p) (cs.drop (k+1))) else runCp mv L (mStep h p) (cs.drop (k+1)):=by
 obtain⟨hk,rfl⟩:=List.getElem?_eq_some_iff.1 hx.out
 rw[List.drop_eq_getElem_cons hk]
 rfl
theorem runCp_stop (hx:Hid (cs[k]?=some p)) (hr:runCp mv L h (cs.drop k)=r) (h1:p.op=1) (h2:L<=h.cells.length) (h3:L<=(mv h).cells.length):r=(mv h,false):=by
 rw[<-hr,runCp_cons hx,if_pos ⟨h1,h2⟩,if_pos h3]
theorem runCp_moved (hx:Hid (cs[k]?=some p)) (hr:runCp mv L h (cs.drop k)=r) (h1:p.op=1) (h2:L<=h.cells.length) (h3:¬ L<=(mv h).cells.length):runCp mv L (mStep (mv h) p) (cs.drop (k+1))=r:=by
 rw[<-hr,runCp_cons hx,if_pos ⟨h1,h2⟩,if_neg h3]
theorem runCp_go (hx:Hid (cs[k]?=some p)) (hr:runCp mv L h (cs.drop k)=r) (hn:¬ (p.op=1/\L<=h.cells.length)):runCp mv L (mStep h p) (cs.drop (k+1))=r:=by
 rw[<-hr,runCp_cons hx,if_neg hn]
theorem runCp_out (hk:cs.length<=k) (hr:runCp mv L h (cs.drop k)=r):r=(h,true):=by
 rw[<-hr,List.drop_of_length_le hk];rfl
end
end
noncomputable def slideL (h:Hp):List Int:=((List.range h.cells.length).filter (reachB h.cells h.roots)).map (fun n:Nat=>(n:Int))
noncomputable def mSlide (h:Hp):Hp:=if heapOk h then gath h (slideL h) else ⟨[],[]⟩
theorem mSlide_yes {h:Hp}(h0:heapOk h=true):mSlide h=gath h (slideL h):=by simp[mSlide,h0]
theorem mem_slide {h:Hp}{x:Int}:x∈slideL h ↔ RchI h x:=by
 unfold slideL
 simp only[List.mem_map,List.mem_filter,List.mem_range]
 constructor
 ·rintro ⟨n,⟨hn,hr⟩,rfl⟩
  exact⟨by omega,by rw[Int.toNat_natCast];exact hr⟩
 ·intro hr
  have hl:=reach_lt hr
  exact⟨x.toNat,⟨by have:=hr.1;omega,hr.2⟩,by have:=hr.1;omega⟩
theorem slide_nodup (h:Hp):(slideL h).Nodup:=by
 unfold slideL
 rw[List.Nodup,List.pairwise_map]
 exact (List.Pairwise.filter _ List.nodup_range).imp fun hne e=>hne (by omega)
theorem slide_live {h:Hp}(h0:heapOk h=true):(slideL h).length=liveN h:=
 Nat.le_antisymm (sub_len _ _ (slide_nodup h) fun x hx=>(mem_ordH h0).2 (mem_slide.1 hx)) (sub_len _ _ (ordH_nodup h) fun x hx=>mem_slide.2 ((mem_ordH h0).1 hx))
theorem slide_short {h:Hp}(h0:heapOk h=true):(slideL h).length<=40:=by
 have h1:=live_le h0
 have h2:=(heapOk_small h0).1
 rw[slide_live h0]
 omega
theorem slide_mover:Mover mSlide:=
 ⟨fun _ h0=>by rw[mSlide_yes h0];exact gath_ok h0 (slide_short h0) fun _=>mem_slide,
  fun h h0=>⟨nameI (slideL h),by rw[mSlide_yes h0];exact gath_sim h0 fun _=>mem_slide⟩,
  fun h h0=>by rw[mSlide_yes h0,<-slide_live h0];simp[gath]⟩
noncomputable def mManB (m:Int) (cs:List Cmd) (L:Int):Bool:=
 cmdsOk cs && inR L 1 40 && inR m 1 7 && (if m=3 then mRunSwB cs L else if m=4 then mRunCpB mCopy cs L else if m=5 then mRunCpB mSlide cs L else true)
noncomputable def mManX (m:Int) (cs:List Cmd) (L:Int):Hp:=
 if m=1 then mRun cs else if m=2 then counter.store (counter.run 0 counter.start cs) else if m=3 then mRunSwH cs L else if m=4 then mRunCpH mCopy cs L else if m=5 then mRunCpH mSlide cs L
 else if m=6 then ((aged L.toNat).run 0 (aged L.toNat).start cs).store else mPaint cs
noncomputable def mManH (m:Int) (cs:List Cmd) (L:Int):Hp:=if mManB m cs L then mManX m cs L else ⟨[],[]⟩
theorem man_view {m:Int}{cs:List Cmd}{L:Int}(h:mManB m cs L=true):heapOk (mManH m cs L)=true/\mView (mManH m cs L)=mView (mRun cs):=by
 unfold mManH
 rw[if_pos h]
 unfold mManB at h
 simp only[Bool.and_eq_true]at h
 obtain⟨⟨⟨hc,hL⟩,-⟩,hm⟩:=h
 obtain⟨q1,q2⟩:=inR_iff.1 hL
 obtain⟨N,rfl⟩:=Int.eq_ofNat_of_zero_le (show 0<=L by omega)
 have n1:1<=N:=by omega
 have n2:N<=40:=by omega
 unfold mManX
 by_cases h1:m=1
 ·rw[if_pos h1];exact⟨run_ok hc,rfl⟩
 rw[if_neg h1]
 by_cases h2:m=2
 ·rw[if_pos h2];exact counter_fine.view hc
 rw[if_neg h2]
 by_cases h3:m=3
 ·rw[if_pos h3]at hm⊢
  obtain⟨k1,-,k3,-,-⟩:=sw_facts hc n1 n2
  exact⟨k1,k3 hm⟩
 rw[if_neg h3]at hm⊢
 by_cases h4:m=4
 ·rw[if_pos h4]at hm⊢
  obtain⟨k1,-,k3,-⟩:=cp_facts copy_mover hc n1 n2
  exact⟨k1,k3 hm⟩
 rw[if_neg h4]at hm⊢
 by_cases h5:m=5
 ·rw[if_pos h5]at hm⊢
  obtain⟨k1,-,k3,-⟩:=cp_facts slide_mover hc n1 n2
  exact⟨k1,k3 hm⟩
 rw[if_neg h5]
 by_cases h6:m=6
 ·rw[if_pos h6];exact (aged_fine _).view hc
 ·rw[if_neg h6];exact paint_view hc
abbrev fnV (n:Nat):Value:=.func (.func n) #[] #[]
def opsL:List Value:=[.int .i64 0,.int .i64 0,.nilFunc,.nilFunc,.int .i64 3,.int .i64 99,fnV 108,.nilFunc,.int .i64 3,.int .i64 2,fnV 109,fnV 111,.int .i64 3,.int .i64 2,fnV 112,fnV 113,.int .i64 3,.int .i64 0,fnV 108,fnV 114,.int .i64 0,.int .i64 0,fnV 108,fnV 115,.int .i64 99,.int .i64 0,fnV 116,fnV 117]
abbrev opsV:Value:=.agg #[.int .i64 0,.int .i64 0,.nilFunc,.nilFunc,.int .i64 3,.int .i64 99,fnV 108,.nilFunc,.int .i64 3,.int .i64 2,fnV 109,fnV 111,.int .i64 3,.int .i64 2,fnV 112,fnV 113,.int .i64 3,.int .i64 0,fnV 108,fnV 114,.int .i64 0,.int .i64 0,fnV 108,fnV 115,.int .i64 99,.int .i64 0,fnV 116,fnV 117]
theorem Tryz.infoOps:(Tryz.prog.info? 126).map (fun i=>i.size)=some 28:=by kernel_rfl
theorem wp_storeW {P:Program}{w w':World}{o:Oper}{a:Act}{K:Act->World->Prop}{Q:Exit->Act->World->Prop}(t:TypeId) (p x:Operand) (hop:o.op=.store t p x) {v u:Value}(hp:a.eval p=v) (hx:a.eval x=u) (h:(Instr.storeAt t v u).run P w=.ok () w') (hK:K (a.put o.dst undef) w'):o.wp P a w K Q:=by
 unfold Oper.wp execOp
 subst hp hx
 simp only[hop,Sem.run_bind,Sem.run_pure,Result.andThen_ok,h,Oper.upon]
 exact hK
theorem modify_push {α:Type}(a:Array α) (o:α) (f:α->α):(a.push o).modify a.size f=a.push (f o):=by
 apply Array.ext
 ·rw[Array.size_modify,Array.size_push,Array.size_push]
 ·intro i h1 h2
  rw[Array.getElem_modify,Array.getElem_push,Array.getElem_push]
  split
  ·rename_i e;subst e
   rw[dif_neg (Nat.lt_irrefl _),dif_neg (Nat.lt_irrefl _)]
  ·rename_i e
   rw[Array.size_modify,Array.size_push]at h1
   rw[dif_pos (by omega),dif_pos (by omega)]
theorem setRow_new (w:World) (zs vs:Array Value) (t:TypeId):(w.alloc (.cells zs t)).setRow w.heap.size vs=w.alloc (.cells vs t):=by
 show World.mk ..=World.mk ..
 congr 1
 exact modify_push _ _ _
theorem run_sizeOf {P:Program}{t:TypeId}{i:TypeInfo}(hq:P.info? t=some i) (w:World):(sizeOf t).run P w=.ok i.size w:=by
 simp[sizeOf,typeInfo,hq]
set_option maxRecDepth 20000 in
theorem store_new (w:World) (zs:List Value) (hz:zs.length=28):(Instr.storeAt 126 (.pointer (some ⟨w.heap.size,0,none⟩)) opsV).run Tryz.prog (w.alloc (.cells zs.toArray 126))=.ok () (w.alloc (.cells opsL.toArray 126)):=by
 have hi:=Tryz.infoOps
 cases hq:Tryz.prog.info? 126 with
 | none=>rw[hq]at hi;cases hi
 | some i =>
  rw[hq]at hi
  simp only[Option.map_some,Option.some.injEq]at hi
  have hh:(w.alloc (.cells zs.toArray 126)).heap[w.heap.size]?=some (.cells zs.toArray 126 (0,0)):=heap1 w _
  have hs:=run_storeCells_at Tryz.prog w.heap.size 0 126 opsL 0 zs.toArray (w.alloc (.cells zs.toArray 126)) hh (by simp[hz,opsL]) (by decide)
  have e:(zs.toArray.toList.take (0+0)++opsL++zs.toArray.toList.drop (0+0+opsL.length)).toArray=opsL.toArray:=by
   rw[List.drop_of_length_le (by simp[hz,opsL])]
   simp
  rw[e]at hs
  rw[setRow_new]at hs
  have hn:opsV.cells.toList=opsL:=rfl
  have hl:opsV.cells.size=28:=rfl
  simp only[Instr.storeAt,Instr.sureAddr,storeVar,Sem.run_bind,Sem.run_pure,Result.andThen_ok,run_sizeOf hq,hi,hn,hl,hs,ne_eq,not_true_eq_false,if_false]
theorem cellAtNew (w:World) (vs:List Value) (t:TypeId) (j:Nat):(w.alloc (.cells vs.toArray t)).cell? ⟨w.heap.size,j,none⟩=vs[j]?:=by
 have h1:=heap1 w (.cells vs.toArray t)
 unfold World.cell?
 rw[h1]
 simp
theorem Tryz.aggOps:Tryz.prog.underlying 126=some (.array 7 125):=by kernel_rfl
set_option maxRecDepth 20000 in
theorem load_new (w:World):(loadVar 126 ⟨w.heap.size,0,none⟩).run Tryz.prog (w.alloc (.cells opsL.toArray 126))=.ok opsV (w.alloc (.cells opsL.toArray 126)):=by
 have hi:=Tryz.infoOps
 cases hq:Tryz.prog.info? 126 with
 | none=>rw[hq]at hi;cases hi
 | some i =>
  rw[hq]at hi
  simp only[Option.map_some,Option.some.injEq]at hi
  have hs:=run_loadCells_list (P:=Tryz.prog) (w.alloc (.cells opsL.toArray 126)) ⟨w.heap.size,0,none⟩ opsL (fun j v hj=>by
   have h1:=cellAtNew w opsL 126 j
   rw[hj]at h1
   rw[<-h1]
   unfold Addr.add
   split <;> simp_all)
  have hl:opsL.length=28:=rfl
  rw[hl]at hs
  simp only[loadVar,isAgg,Sem.run_bind,Sem.run_pure,Result.andThen_ok,run_sizeOf hq,hi,hs,run_underlying Tryz.aggOps,if_true]
  rfl
set_option maxHeartbeats 3200000 in
set_option maxRecDepth 20000 in
theorem operations_any (w:World):Calls Tryz.prog 84 #[] w fun e w'=>e=.returned opsV/\Below w.heap.size w w':=by
 go_enter Tryz.func84,Tryz.ntmps84
 iterate 33 go_step
 refine wp_storeW 126 (.tmp 0) (.tmp 7) rfl rfl rfl (store_new w _ rfl) ?_
 iterate 6 go_step
 refine bodyPost_ret (v:=opsV) ?_ rfl ⟨rfl,(below_alloc _ _)⟩
 have hL:=load_new w
 simp only[results,Tryz.results84]
 simp[hL,asAddr,Act.put]
theorem placeB_neg {h:Hp}{x c:Int}(hx:x<0):placeB h x c=false:=by simp[placeB];omega
theorem placeB_at {h:Hp}{q:Nat}{l:Cel}{c:Int}(hl:Hid (h.cells[q]?=some l)):placeB h (q:Int) c=decide (c<(l.refs.length:Int)):=by
 unfold placeB
 rw[show celI h (q:Int)=l from by unfold celI;rw[Int.toNat_natCast,getD_of hl]]
 simp
set_option maxHeartbeats 3200000 in
set_option maxRecDepth 20000 in
theorem place_any (w:World) (B:Nat) (v:Value) (h:Hp) (hh:RdH w B v h) (g:Good h) (rn:Nat) (hr3:rn<=3) (c:Int) (hc0:0<=c):
  Calls Tryz.prog 110 #[v,.int .i64 rn,.int .i64 c] w fun e w'=>(∃ p,e=.returned (.tuple #[p,.bool (placeB h (rootI h rn) c)]))/\Below w.heap.size w w':=by
 have hh':=hh.top
 obtain⟨D,m,d,D',m',d',rfl,hC,hR⟩:=hh.top
 have l1:=hC.le1;have l2:=hC.le2
 have l3:=RdI.le1 hR;have l4:=RdI.le2 hR
 have h4:=g.roots
 have hrm:rn<m':=by omega
 obtain⟨bb,oo,x,rfl,hbb,hx,q1⟩:=RdI.at_ hR hrm
 have hxl:x<h.cells.length:=by rw[<-rootI_of hx];exact good_rootLt g _
 have HE:=hid (rootI_of hx)
 have H:=(Owns.nil w).box [.slice D m d,.slice (some ⟨bb,oo,none⟩) m' d'] 29
 obtain⟨a0,a1,-,-⟩:=H.box2 0 rfl
 have q2:=H.ro q1 hbb
 have HB:=H.below
 clear hh hh' h4 g q1
 rw[HE.out]
 by_cases hx0:x<0
 ·have HF:=hid (placeB_neg (h:=h) (c:=c) hx0)
  clear H
  go_enter Tryz.func110,Tryz.ntmps110
  go_wp2
  exact bodyPost_ret (v:=.tuple #[.pointer none,.bool false]) (by simp[results,Tryz.results110,go_sem]) rfl ⟨⟨_,by rw[HF.out]⟩,HB⟩
 ·obtain⟨q,rfl⟩:=Int.eq_ofNat_of_zero_le (by omega:0<=x)
  have hqm:q<m:=by omega
  obtain⟨b2,o2,l,A2,n2,c2,rfl,hbb2,hxc,k1,k2,k3,hrf⟩:=hC.at_ hqm
  have r1:=RdI.le1 hrf;have r2:=RdI.le2 hrf
  have k4:=H.ro k3 hbb2
  clear k1 k2 k3
  by_cases hcl:c<(n2:Int)
  rotate_left
  ·have HF:Hid (placeB h (q:Int) c=false):=hid (by rw[placeB_at hxc];exact decide_eq_false (by omega))
   have hge:(n2:Int)<=c:=by omega
   clear H
   go_enter Tryz.func110,Tryz.ntmps110
   go_wp2
   exact bodyPost_ret (v:=.tuple #[.pointer none,.bool false]) (by simp[results,Tryz.results110,go_sem]) rfl ⟨⟨_,by rw[HF.out]⟩,HB⟩
  ·have HF:Hid (placeB h (q:Int) c=true):=hid (by rw[placeB_at hxc];exact decide_eq_true (by omega))
   obtain⟨cn,rfl⟩:=Int.eq_ofNat_of_zero_le hc0
   obtain⟨b3,o3,y,rfl,hbb3,hy,t1⟩:=RdI.at_ hrf (by omega:cn<n2)
   have hge:¬ (n2:Int)<=(cn:Int):=by omega
   clear H t1
   go_enter Tryz.func110,Tryz.ntmps110
   go_wp2
   exact bodyPost_ret (v:=.tuple #[.pointer (some ⟨b3,o3+cn,none⟩),.bool true]) (by simp[results,Tryz.results110,go_sem]) rfl ⟨⟨_,by rw[HF.out]⟩,HB⟩
set_option maxHeartbeats 3200000 in
set_option maxRecDepth 20000 in
theorem place_own {lo:Nat}{w0 w:World}{L:List OB}{gC nC kC gR nR kR:Nat}{rvs:List Value}{cs:List Cel}{rs:List Int}(H0:Owns lo w0 w L) (i j:Nat) (hX:L[i]?=some (.cells (.slice (some ⟨gC,0,none⟩) nC kC) rvs cs)) (hY:L[j]?=some (.ints (.slice (some ⟨gR,0,none⟩) nR kR) rs))
  (hnC:nC=cs.length) (hnR:nR=rs.length) (_hnc4:nC<=kC) (_hnr4:nR<=kR) (rn cn q:Nat) (l:Cel) (hx:Hid (rs[rn]?=some (q:Int))) (hl:Hid (cs[q]?=some l)) (hc:cn<l.refs.length):
  ∃ gF c2,Hid (rvs[q]?=some (.slice (some ⟨gF,0,none⟩) l.refs.length c2))/\Calls Tryz.prog 110 #[.agg #[.slice (some ⟨gC,0,none⟩) nC kC,.slice (some ⟨gR,0,none⟩) nR kR],.int .i64 rn,.int .i64 cn] w fun e w'=>e=.returned (.tuple #[.pointer (some ⟨gF,cn,none⟩),.bool true])/\Owns lo w0 w' L:=by
 obtain⟨yo,hyo⟩:∃ y,Hid (l.refs[cn]?=some y):=⟨_,hid (List.getElem?_eq_getElem hc)⟩
 obtain⟨gC',cC,A2,c2,eC,hrv,-,-,-,-,-,-,hc2,-⟩:=H0.cellW i hX hl
 simp only[Value.slice.injEq,Option.some.injEq,Addr.mk.injEq,and_true]at eC
 obtain⟨rfl,-,rfl⟩:=eC
 obtain⟨gF,rfl,-,-⟩:=H0.refAt i hX hrv hl hyo
 refine⟨gF,c2,hrv,?_⟩
 have hrl:rn<nR:=by rw[hnR];exact (List.getElem?_eq_some_iff.1 hx.out).1
 have hql:q<nC:=by rw[hnC];exact (List.getElem?_eq_some_iff.1 hl.out).1
 have H:=H0.box [.slice (some ⟨gC,0,none⟩) nC kC,.slice (some ⟨gR,0,none⟩) nR kR] 29
 obtain⟨a0,a1,-,-⟩:=H.box2 0 rfl
 obtain⟨r0,-⟩:=H.intAt (j+1) hY hnR hx
 obtain⟨gC',cC',A3,c3,eC,hrv3,-,-,k4,-,-,-,-,-⟩:=H.cellW (i+1) hX hl
 simp only[Value.slice.injEq,Option.some.injEq,Addr.mk.injEq,and_true]at eC
 obtain⟨rfl,-,rfl⟩:=eC
 have eV:=hid_inj hrv hrv3
 simp only[Value.slice.injEq,true_and]at eV
 obtain⟨rfl,rfl⟩:=eV
 have hge:¬ (l.refs.length:Int)<=(cn:Int):=by omega
 have hq0:¬ (q:Int)<0:=by omega
 have i1:(0:Int)<=(q:Int):=by omega
 have i2:(q:Int)<(nC:Int):=by omega
 have i3:(0:Int)<=(rn:Int):=by omega
 have i4:(rn:Int)<(nR:Int):=by omega
 have i5:(0:Int)<=(cn:Int):=by omega
 have i6:(cn:Int)<(l.refs.length:Int):=by omega
 have HK:=H.erase 0
 simp only[List.eraseIdx_cons_zero]at HK
 clear H H0 hrv3 hX hY hx hl hyo hrv hnC hnR
 go_enter Tryz.func110,Tryz.ntmps110
 go_wp2
 exact bodyPost_ret (v:=.tuple #[.pointer (some ⟨gF,cn,none⟩),.bool true]) (by simp[results,Tryz.results110,go_sem]) rfl ⟨rfl,HK⟩
section
section
variable {lo:Nat} {w0 w:World} {L0:List OB} {g:Nat} {C:Option Addr} {nC kC gC gR nR kR:Nat} {rvs:List Value} {cs:List Cel} {rs:List Int} {t:TypeId}
set_option maxHeartbeats 3200000 in
set_option maxRecDepth 20000 in
theorem runCopy_own (H:Owns lo w0 w (.box g [.slice C nC kC,.slice (some ⟨gR,0,none⟩) nR kR] t::.cells (.slice C nC kC) rvs cs::.ints (.slice (some ⟨gR,0,none⟩) nR kR) rs::L0)) (hnR:nR=rs.length) (op c:Int) (an bn:Nat) (xa xb:Int) (hxa:Hid (rs[an]?=some xa)) (hxb:Hid (rs[bn]?=some xb)):
  Calls Tryz.prog 114 #[.pointer (some ⟨g,0,none⟩),cmdV ⟨op,an,bn,c⟩] w fun e w'=>(∃ u,e=.returned u)/\Owns lo w0 w' (.box g [.slice C nC kC,.slice (some ⟨gR,0,none⟩) nR kR] t::.cells (.slice C nC kC) rvs cs::.ints (.slice (some ⟨gR,0,none⟩) nR kR) (rs.set an xb)::L0):=by
 have hal:an<nR:=by rw[hnR];exact (List.getElem?_eq_some_iff.1 hxa.out).1
 have hbl:bn<nR:=by rw[hnR];exact (List.getElem?_eq_some_iff.1 hxb.out).1
 have HN:=hid hnR
 have H1:=H.box [.int .i64 op,.int .i64 an,.int .i64 bn,.int .i64 c] 79
 have HX:=H1.drew
 obtain⟨x0,x1,-,-⟩:=HX.box2 1 rfl
 obtain⟨b0,b1,b2,b3,-,-,-,-⟩:=box4 HX 0 rfl
 obtain⟨y0,-⟩:=HX.intAt 3 rfl hnR hxb
 obtain⟨e0,e1⟩:=HX.intAt 3 rfl hnR hxa
 clear hnR H
 go_enter Tryz.func114,Tryz.ntmps114
 go_wp2_with fail
 refine wp_region_tree (fun w'=>(w'.cell? ⟨g,0,none⟩=some (.slice C nC kC)/\w'.cell? ⟨g,1,none⟩=some (.slice (some ⟨gR,0,none⟩) nR kR))/\(w'.cell? ⟨w.heap.size,1,none⟩=some (.int .i64 an)/\w'.cell? ⟨w.heap.size,2,none⟩=some (.int .i64 bn))/\w'.cell? ⟨gR,bn,none⟩=some (.int .i64 xb)) 15 [] (.take 0 (.take 1 (.take 2 (.take 3 (.take 4 (.take 5 (.take 6 (.take 7 (.take 8 (.take 9 (.take 10 (.take 11 (.take 12 (.take 13 (.take 14 (.alt 15 (.done) (.stop))))))))))))))))) (by kernel_rfl) (by kernel_rfl) (by kernel_rfl) (⟨⟨x0,x1⟩,⟨b1,b2⟩,y0⟩) ?_
 simp only[fillT,lgz,Nat.reduceBEq]
 repeat first|(with_reducible apply po_take;(·(go_simp;done));(·(intro w' hS';(try dsimp only at hS');go_simp;try with_reducible rfl));simp only[lpa])|(with_reducible apply po_skip;(·(go_simp;done));simp only[lpa])
 with_reducible refine po_last ?_ (fun K hK=>?_)
 ·(go_simp;done)
 go_simp
 clear HX
 have HX:=H1.setInt 3 rfl HN.out an xb
 simp only[lsz]at HX
 clear H1 x0 x1 b0 b1 b2 b3 y0 e0 e1
 refine hK.out _ _ (.inl rfl) ?_
 clear hK K
 refine po_done ?_
 have HZ:=HX.drew.erase 0
 simp only[List.eraseIdx_cons_zero]at HZ
 clear HX
 go_wp2
 refine bodyPost_end (results_none rfl _ _ _) rfl ?_
 exact⟨⟨_,rfl⟩,HZ⟩
set_option maxHeartbeats 3200000 in
set_option maxRecDepth 20000 in
theorem runDrop_own (H:Owns lo w0 w (.box g [.slice C nC kC,.slice (some ⟨gR,0,none⟩) nR kR] t::.cells (.slice C nC kC) rvs cs::.ints (.slice (some ⟨gR,0,none⟩) nR kR) rs::L0)) (hnR:nR=rs.length) (op b c:Int) (an:Nat) (xa:Int) (hxa:Hid (rs[an]?=some xa)):
  Calls Tryz.prog 115 #[.pointer (some ⟨g,0,none⟩),cmdV ⟨op,an,b,c⟩] w fun e w'=>(∃ u,e=.returned u)/\Owns lo w0 w' (.box g [.slice C nC kC,.slice (some ⟨gR,0,none⟩) nR kR] t::.cells (.slice C nC kC) rvs cs::.ints (.slice (some ⟨gR,0,none⟩) nR kR) (rs.set an (-1))::L0):=by
 have hal:an<nR:=by rw[hnR];exact (List.getElem?_eq_some_iff.1 hxa.out).1
 have HN:=hid hnR
 have H1:=H.box [.int .i64 op,.int .i64 an,.int .i64 b,.int .i64 c] 79
 have HX:=H1.drew
 obtain⟨x0,x1,-,-⟩:=HX.box2 1 rfl
 obtain⟨b0,b1,b2,b3,-,-,-,-⟩:=box4 HX 0 rfl
 obtain⟨e0,e1⟩:=HX.intAt 3 rfl hnR hxa
 clear hnR H
 go_enter Tryz.func115,Tryz.ntmps115
 go_wp2_with fail
 refine wp_region_tree (fun w'=>(w'.cell? ⟨g,0,none⟩=some (.slice C nC kC)/\w'.cell? ⟨g,1,none⟩=some (.slice (some ⟨gR,0,none⟩) nR kR))/\w'.cell? ⟨w.heap.size,1,none⟩=some (.int .i64 an)) 7 [] (.take 0 (.take 1 (.take 2 (.take 3 (.take 4 (.take 5 (.take 6 (.alt 7 (.done) (.stop))))))))) (by kernel_rfl) (by kernel_rfl) (by kernel_rfl) (⟨⟨x0,x1⟩,b1⟩) ?_
 simp only[fillT,lgz,Nat.reduceBEq]
 repeat first|(with_reducible apply po_take;(·(go_simp;done));(·(intro w' hS';(try dsimp only at hS');go_simp;try with_reducible rfl));simp only[lpa])|(with_reducible apply po_skip;(·(go_simp;done));simp only[lpa])
 with_reducible refine po_last ?_ (fun K hK=>?_)
 ·(go_simp;done)
 go_simp
 clear HX
 have HX:=H1.setInt 3 rfl HN.out an (-1)
 simp only[lsz]at HX
 clear H1 x0 x1 b0 b1 b2 b3 e0 e1
 refine hK.out _ _ (.inl rfl) ?_
 clear hK K
 refine po_done ?_
 have HZ:=HX.drew.erase 0
 simp only[List.eraseIdx_cons_zero]at HZ
 clear HX
 go_wp2
 refine bodyPost_end (results_none rfl _ _ _) rfl ?_
 exact⟨⟨_,rfl⟩,HZ⟩
set_option maxHeartbeats 3200000 in
set_option maxRecDepth 20000 in
theorem runData_own (H:Owns lo w0 w (.box g [.slice (some ⟨gC,0,none⟩) nC kC,.slice (some ⟨gR,0,none⟩) nR kR] t::.cells (.slice (some ⟨gC,0,none⟩) nC kC) rvs cs::.ints (.slice (some ⟨gR,0,none⟩) nR kR) rs::L0)) (hnC:nC=cs.length) (hnR:nR=rs.length) (op b c:Int) (an q:Nat) (l:Cel) (hxa:Hid (rs[an]?=some (q:Int))) (hl:Hid (cs[q]?=some l)):
  Calls Tryz.prog 117 #[.pointer (some ⟨g,0,none⟩),cmdV ⟨op,an,b,c⟩] w fun e w'=>(∃ u,e=.returned u)/\Owns lo w0 w' (.box g [.slice (some ⟨gC,0,none⟩) nC kC,.slice (some ⟨gR,0,none⟩) nR kR] t::.cells (.slice (some ⟨gC,0,none⟩) nC kC) rvs (cs.set q ⟨l.used,b,l.refs⟩)::.ints (.slice (some ⟨gR,0,none⟩) nR kR) rs::L0):=by
 have hal:an<nR:=by rw[hnR];exact (List.getElem?_eq_some_iff.1 hxa.out).1
 have hql:q<nC:=by rw[hnC];exact (List.getElem?_eq_some_iff.1 hl.out).1
 have HN:=hid hnC
 have i1:(0:Int)<=(q:Int):=by omega
 have i2:(q:Int)<(nC:Int):=by omega
 have H1:=H.box [.int .i64 op,.int .i64 an,.int .i64 b,.int .i64 c] 79
 have HX:=H1.drew
 obtain⟨x0,x1,-,-⟩:=HX.box2 1 rfl
 obtain⟨b0,b1,b2,b3,-,-,-,-⟩:=box4 HX 0 rfl
 obtain⟨y0,-⟩:=HX.intAt 3 rfl hnR hxa
 obtain⟨gC',cC',A2,c2,eC,-,-,e0,-,-,e1,-,-,-⟩:=HX.cellW 2 rfl hl
 simp only[Value.slice.injEq,Option.some.injEq,Addr.mk.injEq,and_true]at eC
 obtain⟨rfl,-,rfl⟩:=eC
 clear hnR hnC H
 go_enter Tryz.func117,Tryz.ntmps117
 go_wp2_with fail
 refine wp_region_tree (fun w'=>(w'.cell? ⟨g,0,none⟩=some (.slice (some ⟨gC,0,none⟩) nC kC)/\w'.cell? ⟨g,1,none⟩=some (.slice (some ⟨gR,0,none⟩) nR kR))/\(w'.cell? ⟨w.heap.size,1,none⟩=some (.int .i64 an)/\w'.cell? ⟨w.heap.size,2,none⟩=some (.int .i64 b))/\w'.cell? ⟨gR,an,none⟩=some (.int .i64 (q:Int))) 16 [] (.take 0 (.take 1 (.take 2 (.take 3 (.take 4 (.take 5 (.take 6 (.take 7 (.take 8 (.take 9 (.take 10 (.take 11 (.take 12 (.take 13 (.take 14 (.take 15 (.alt 16 (.done) (.stop)))))))))))))))))) (by kernel_rfl) (by kernel_rfl) (by kernel_rfl) (⟨⟨x0,x1⟩,⟨b1,b2⟩,y0⟩) ?_
 simp only[fillT,lgz,Nat.reduceBEq]
 repeat first|(with_reducible apply po_take;(·(go_simp;done));(·(intro w' hS';(try dsimp only at hS');go_simp;try with_reducible rfl));simp only[lpa])|(with_reducible apply po_skip;(·(go_simp;done));simp only[lpa])
 with_reducible refine po_last ?_ (fun K hK=>?_)
 ·(go_simp;done)
 go_simp
 clear HX
 have HX:=H1.putDat 2 rfl HN.out hl.out b
 simp only[lsz]at HX
 clear H1 x0 x1 b0 b1 b2 b3 y0 e0 e1
 refine hK.out _ _ (.inl rfl) ?_
 clear hK K
 refine po_done ?_
 have HZ:=HX.drew.erase 0
 simp only[List.eraseIdx_cons_zero]at HZ
 clear HX
 go_wp2
 refine bodyPost_end (results_none rfl _ _ _) rfl ?_
 exact⟨⟨_,rfl⟩,HZ⟩
set_option maxHeartbeats 3200000 in
set_option maxRecDepth 20000 in
theorem runGet_own (H:Owns lo w0 w (.box g [.slice (some ⟨gC,0,none⟩) nC kC,.slice (some ⟨gR,0,none⟩) nR kR] t::.cells (.slice (some ⟨gC,0,none⟩) nC kC) rvs cs::.ints (.slice (some ⟨gR,0,none⟩) nR kR) rs::L0)) (hnC:nC=cs.length) (hnR:nR=rs.length) (hkC:nC<=kC) (hkR:nR<=kR) (op:Int) (an bn cn q:Nat) (l:Cel) (xa y:Int) (hxa:Hid (rs[an]?=some xa)) (hxb:Hid (rs[bn]?=some (q:Int))) (hl:Hid (cs[q]?=some l)) (hy:Hid (l.refs[cn]?=some y)):
  Calls Tryz.prog 111 #[.pointer (some ⟨g,0,none⟩),cmdV ⟨op,an,bn,cn⟩] w fun e w'=>(∃ u,e=.returned u)/\Owns lo w0 w' (.box g [.slice (some ⟨gC,0,none⟩) nC kC,.slice (some ⟨gR,0,none⟩) nR kR] t::.cells (.slice (some ⟨gC,0,none⟩) nC kC) rvs cs::.ints (.slice (some ⟨gR,0,none⟩) nR kR) (rs.set an y)::L0):=by
 have hal:an<nR:=by rw[hnR];exact (List.getElem?_eq_some_iff.1 hxa.out).1
 have hcl:cn<l.refs.length:=(List.getElem?_eq_some_iff.1 hy.out).1
 have HC:=hid hnC
 have HN:=hid hnR
 have H1:=H.box [.int .i64 op,.int .i64 an,.int .i64 bn,.int .i64 cn] 79
 have HX:=H1.drew
 obtain⟨x0,x1,-,-⟩:=HX.box2 1 rfl
 obtain⟨b0,b1,b2,b3,-,-,-,-⟩:=box4 HX 0 rfl
 clear hnR hnC H H1
 go_enter Tryz.func111,Tryz.ntmps111
 go_wp2_with fail
 refine wp_region_tree (fun w'=>(w'.cell? ⟨g,0,none⟩=some (.slice (some ⟨gC,0,none⟩) nC kC)/\w'.cell? ⟨g,1,none⟩=some (.slice (some ⟨gR,0,none⟩) nR kR))/\(w'.cell? ⟨w.heap.size,1,none⟩=some (.int .i64 an)/\w'.cell? ⟨w.heap.size,2,none⟩=some (.int .i64 bn)/\w'.cell? ⟨w.heap.size,3,none⟩=some (.int .i64 cn))) 13 [] (.take 0 (.take 1 (.take 2 (.take 3 (.take 4 (.take 5 (.take 6 (.alt 7 (.take 8 (.take 9 (.take 10 (.take 11 (.take 12 (.done)))))) (.stop))))))))) (by kernel_rfl) (by kernel_rfl) (by kernel_rfl) (⟨⟨x0,x1⟩,b1,b2,b3⟩) ?_
 simp only[fillT,lgz,Nat.reduceBEq]
 repeat first|(with_reducible apply po_take;(·(go_simp;done));(·(intro w' hS';(try dsimp only at hS');go_simp;try with_reducible rfl));simp only[lpa])|(with_reducible apply po_skip;(·(go_simp;done));simp only[lpa])
 with_reducible refine po_last ?_ (fun K hK=>?_)
 ·(go_simp;done)
 go_simp
 obtain⟨gF,c2,hrv,hP⟩:=place_own HX 2 3 rfl rfl HC.out HN.out hkC hkR bn cn q l hxb hl hcl
 refine hP.mono ?_
 rintro e w1 ⟨rfl,HY⟩
 clear hP HX x0 x1 b0 b1 b2 b3
 obtain⟨x0,x1,-,-⟩:=HY.box2 1 rfl
 obtain⟨b0,b1,b2,b3,-,-,-,-⟩:=box4 HY 0 rfl
 refine hK.out _ _ (.inr (⟨⟨x0,x1⟩,b1,b2,b3⟩)) ?_
 clear hK K
 clear x0 x1 b0 b1 b2 b3
 repeat first|(with_reducible apply po_take;(·(go_simp;done));(·(intro w' hS';(try dsimp only at hS');go_simp;try with_reducible rfl));simp only[lpa])|(with_reducible apply po_skip;(·(go_simp;done));simp only[lpa])
 refine po_done ?_
 have HX:=HY.drew
 obtain⟨x0,x1,-,-⟩:=HX.box2 1 rfl
 obtain⟨b0,b1,b2,b3,-,-,-,-⟩:=box4 HX 0 rfl
 obtain⟨gF',eF,y0,-⟩:=HX.refAt 2 rfl hrv hl hy
 simp only[Option.some.injEq,Addr.mk.injEq,and_true]at eF
 obtain rfl:=eF
 obtain⟨e0,e1⟩:=HX.intAt 3 rfl HN.out hxa
 go_wp2_with fail
 refine wp_region_tree (fun w'=>(w'.cell? ⟨g,0,none⟩=some (.slice (some ⟨gC,0,none⟩) nC kC)/\w'.cell? ⟨g,1,none⟩=some (.slice (some ⟨gR,0,none⟩) nR kR))/\w'.cell? ⟨w.heap.size,1,none⟩=some (.int .i64 an)/\w'.cell? ⟨gF,cn,none⟩=some (.int .i64 y)) 10 [] (.take 0 (.take 1 (.take 2 (.take 3 (.take 4 (.take 5 (.take 6 (.take 7 (.take 8 (.take 9 (.alt 10 (.done) (.stop)))))))))))) (by kernel_rfl) (by kernel_rfl) (by kernel_rfl) (⟨⟨x0,x1⟩,b1,y0⟩) ?_
 simp only[fillT,lgz,Nat.reduceBEq]
 repeat first|(with_reducible apply po_take;(·(go_simp;done));(·(intro w' hS';(try dsimp only at hS');go_simp;try with_reducible rfl));simp only[lpa])|(with_reducible apply po_skip;(·(go_simp;done));simp only[lpa])
 with_reducible refine po_last ?_ (fun K hK=>?_)
 ·(go_simp;done)
 go_simp
 clear HX
 have HX:=HY.setInt 3 rfl HN.out an y
 simp only[lsz]at HX
 clear HY x0 x1 b0 b1 b2 b3 y0 e0 e1
 refine hK.out _ _ (.inl rfl) ?_
 clear hK K
 refine po_done ?_
 have HZ:=HX.drew.erase 0
 simp only[List.eraseIdx_cons_zero]at HZ
 clear HX
 go_wp2
 refine bodyPost_end (results_none rfl _ _ _) rfl ?_
 exact⟨⟨_,rfl⟩,HZ⟩
set_option maxHeartbeats 3200000 in
set_option maxRecDepth 20000 in
theorem runSet_own (H:Owns lo w0 w (.box g [.slice (some ⟨gC,0,none⟩) nC kC,.slice (some ⟨gR,0,none⟩) nR kR] t::.cells (.slice (some ⟨gC,0,none⟩) nC kC) rvs cs::.ints (.slice (some ⟨gR,0,none⟩) nR kR) rs::L0)) (hnC:nC=cs.length) (hnR:nR=rs.length) (hkC:nC<=kC) (hkR:nR<=kR) (op:Int) (an bn cn q:Nat) (l:Cel) (xb y:Int) (hxa:Hid (rs[an]?=some (q:Int))) (hxb:Hid (rs[bn]?=some xb)) (hl:Hid (cs[q]?=some l)) (hy:Hid (l.refs[cn]?=some y)):
  Calls Tryz.prog 113 #[.pointer (some ⟨g,0,none⟩),cmdV ⟨op,an,bn,cn⟩] w fun e w'=>(∃ u,e=.returned u)/\Owns lo w0 w' (.box g [.slice (some ⟨gC,0,none⟩) nC kC,.slice (some ⟨gR,0,none⟩) nR kR] t::.cells (.slice (some ⟨gC,0,none⟩) nC kC) rvs (cs.set q ⟨l.used,l.data,l.refs.set cn xb⟩)::.ints (.slice (some ⟨gR,0,none⟩) nR kR) rs::L0):=by
 have hbl:bn<nR:=by rw[hnR];exact (List.getElem?_eq_some_iff.1 hxb.out).1
 have hcl:cn<l.refs.length:=(List.getElem?_eq_some_iff.1 hy.out).1
 have HC:=hid hnC
 have HN:=hid hnR
 have H1:=H.box [.int .i64 op,.int .i64 an,.int .i64 bn,.int .i64 cn] 79
 have HX:=H1.drew
 obtain⟨x0,x1,-,-⟩:=HX.box2 1 rfl
 obtain⟨b0,b1,b2,b3,-,-,-,-⟩:=box4 HX 0 rfl
 clear hnR hnC H H1
 go_enter Tryz.func113,Tryz.ntmps113
 go_wp2_with fail
 refine wp_region_tree (fun w'=>(w'.cell? ⟨g,0,none⟩=some (.slice (some ⟨gC,0,none⟩) nC kC)/\w'.cell? ⟨g,1,none⟩=some (.slice (some ⟨gR,0,none⟩) nR kR))/\(w'.cell? ⟨w.heap.size,1,none⟩=some (.int .i64 an)/\w'.cell? ⟨w.heap.size,2,none⟩=some (.int .i64 bn)/\w'.cell? ⟨w.heap.size,3,none⟩=some (.int .i64 cn))) 13 [] (.take 0 (.take 1 (.take 2 (.take 3 (.take 4 (.take 5 (.take 6 (.alt 7 (.take 8 (.take 9 (.take 10 (.take 11 (.take 12 (.done)))))) (.stop))))))))) (by kernel_rfl) (by kernel_rfl) (by kernel_rfl) (⟨⟨x0,x1⟩,b1,b2,b3⟩) ?_
 simp only[fillT,lgz,Nat.reduceBEq]
 repeat first|(with_reducible apply po_take;(·(go_simp;done));(·(intro w' hS';(try dsimp only at hS');go_simp;try with_reducible rfl));simp only[lpa])|(with_reducible apply po_skip;(·(go_simp;done));simp only[lpa])
 with_reducible refine po_last ?_ (fun K hK=>?_)
 ·(go_simp;done)
 go_simp
 obtain⟨gF,c2,hrv,hP⟩:=place_own HX 2 3 rfl rfl HC.out HN.out hkC hkR an cn q l hxa hl hcl
 refine hP.mono ?_
 rintro e w1 ⟨rfl,HY⟩
 clear hP HX x0 x1 b0 b1 b2 b3
 obtain⟨x0,x1,-,-⟩:=HY.box2 1 rfl
 obtain⟨b0,b1,b2,b3,-,-,-,-⟩:=box4 HY 0 rfl
 refine hK.out _ _ (.inr (⟨⟨x0,x1⟩,b1,b2,b3⟩)) ?_
 clear hK K
 clear x0 x1 b0 b1 b2 b3
 repeat first|(with_reducible apply po_take;(·(go_simp;done));(·(intro w' hS';(try dsimp only at hS');go_simp;try with_reducible rfl));simp only[lpa])|(with_reducible apply po_skip;(·(go_simp;done));simp only[lpa])
 refine po_done ?_
 have HX:=HY.drew
 obtain⟨x0,x1,-,-⟩:=HX.box2 1 rfl
 obtain⟨b0,b1,b2,b3,-,-,-,-⟩:=box4 HX 0 rfl
 obtain⟨gF',eF,e0,e1⟩:=HX.refAt 2 rfl hrv hl hy
 simp only[Option.some.injEq,Addr.mk.injEq,and_true]at eF
 obtain rfl:=eF
 obtain⟨y0,-⟩:=HX.intAt 3 rfl HN.out hxb
 go_wp2_with fail
 refine wp_region_tree (fun w'=>(w'.cell? ⟨g,0,none⟩=some (.slice (some ⟨gC,0,none⟩) nC kC)/\w'.cell? ⟨g,1,none⟩=some (.slice (some ⟨gR,0,none⟩) nR kR))/\w'.cell? ⟨w.heap.size,2,none⟩=some (.int .i64 bn)/\w'.cell? ⟨gR,bn,none⟩=some (.int .i64 xb)) 10 [] (.take 0 (.take 1 (.take 2 (.take 3 (.take 4 (.take 5 (.take 6 (.take 7 (.take 8 (.take 9 (.alt 10 (.done) (.stop)))))))))))) (by kernel_rfl) (by kernel_rfl) (by kernel_rfl) (⟨⟨x0,x1⟩,b2,y0⟩) ?_
 simp only[fillT,lgz,Nat.reduceBEq]
 repeat first|(with_reducible apply po_take;(·(go_simp;done));(·(intro w' hS';(try dsimp only at hS');go_simp;try with_reducible rfl));simp only[lpa])|(with_reducible apply po_skip;(·(go_simp;done));simp only[lpa])
 with_reducible refine po_last ?_ (fun K hK=>?_)
 ·(go_simp;done)
 go_simp
 clear HX
 have HX:=HY.putRef 2 rfl hrv.out hl.out rfl cn xb
 simp only[lsz]at HX
 clear HY x0 x1 b0 b1 b2 b3 y0 e0 e1
 refine hK.out _ _ (.inl rfl) ?_
 clear hK K
 refine po_done ?_
 have HZ:=HX.drew.erase 0
 simp only[List.eraseIdx_cons_zero]at HZ
 clear HX
 go_wp2
 refine bodyPost_end (results_none rfl _ _ _) rfl ?_
 exact⟨⟨_,rfl⟩,HZ⟩
end
end
theorem cmdOk_tests {k a b c:Int}{bk ck:Int}(e:cmdOk ⟨k,a,b,c⟩=(inR a 0 3 && inR b 0 bk && inR c 0 ck)):
  (a<0->cmdOk ⟨k,a,b,c⟩=false)/\(¬ a<4->cmdOk ⟨k,a,b,c⟩=false)/\(b<0->cmdOk ⟨k,a,b,c⟩=false)/\(bk<b->cmdOk ⟨k,a,b,c⟩=false)/\(c<0->cmdOk ⟨k,a,b,c⟩=false)/\(ck<c->cmdOk ⟨k,a,b,c⟩=false)/\(0<=a->a<4->0<=b->b<=bk->0<=c->c<=ck->cmdOk ⟨k,a,b,c⟩=true):=by
 rw[e]
 simp only[inR]
 refine⟨fun h=>?_,fun h=>?_,fun h=>?_,fun h=>?_,fun h=>?_,fun h=>?_,fun h1 h2 h3 h4 h5 h6=>?_⟩
 ·simp;omega
 ·simp;omega
 ·simp;omega
 ·simp;omega
 ·simp;omega
 ·simp;omega
 ·simp;omega
theorem cmdOk_t1 (a b c:Int):cmdOk ⟨1,a,b,c⟩=(inR a 0 3 && inR b 0 3 && inR c 0 99):=cmdOk1 a b c
theorem cmdOk_t2 (a b c:Int):cmdOk ⟨2,a,b,c⟩=(inR a 0 3 && inR b 0 3 && inR c 0 2):=cmdOk2 a b c
theorem cmdOk_t3 (a b c:Int):cmdOk ⟨3,a,b,c⟩=(inR a 0 3 && inR b 0 3 && inR c 0 2):=cmdOk3 a b c
theorem inR_0 (c:Int):inR c 0 0=(c == 0):=by
 rw[Bool.eq_iff_iff]
 simp[inR];omega
theorem cmdOk_t4 (a b c:Int):cmdOk ⟨4,a,b,c⟩=(inR a 0 3 && inR b 0 3 && inR c 0 0):=by rw[cmdOk4,inR_0]
theorem cmdOk_t5 (a b c:Int):cmdOk ⟨5,a,b,c⟩=(inR a 0 3 && inR b 0 0 && inR c 0 0):=by rw[cmdOk5,inR_0,inR_0]
theorem cmdOk_t6 (a b c:Int):cmdOk ⟨6,a,b,c⟩=(inR a 0 3 && inR b 0 99 && inR c 0 0):=by rw[cmdOk6,inR_0]
theorem opsAt_1 (w:World):(Instr.index 126 opsV (.int .i64 1)).run Tryz.prog w=.ok (.agg #[.int .i64 3,.int .i64 99,fnV 108,.nilFunc]) w:=by kernel_rfl
theorem opsP_1 (w:World):(Instr.field 125 (.agg #[.int .i64 3,.int .i64 99,fnV 108,.nilFunc]) 2).run Tryz.prog w=.ok (fnV 108) w:=by kernel_rfl
set_option maxHeartbeats 3200000 in
set_option maxRecDepth 20000 in
theorem implCommandValid_1 (a b c:Int) (w:World):Calls Tryz.prog 60 #[cmdV ⟨1,a,b,c⟩] w fun e w'=>e=.returned (.bool (cmdOk ⟨1,a,b,c⟩))/\Below w.heap.size w w':=by
 have H:=(Owns.nil w).box [.int .i64 1,.int .i64 a,.int .i64 b,.int .i64 c] 79
 have hI:=opsAt_1
 obtain⟨t1,t2,t3,t4,t5,t6,t7⟩:=cmdOk_tests (cmdOk_t1 a b c)
 have T1:=hid t1
 have T2:=hid t2
 have T3:=hid t3
 have T4:=hid t4
 have T5:=hid t5
 have T6:=hid t6
 have T7:=hid t7
 clear t1 t2 t3 t4 t5 t6 t7
 obtain⟨b0,b1,b2,b3,-,-,-,-⟩:=box4 H 0 rfl
 go_enter Tryz.func60,Tryz.ntmps60
 go_wp2_with fail
 have HX:=H.drew
 clear b0 b1 b2 b3
 obtain⟨b0,b1,b2,b3,-,-,-,-⟩:=box4 HX 0 rfl
 refine wp_region_tree (fun w'=>w'.cell? ⟨w.heap.size,0,none⟩=some (.int .i64 1)/\w'.cell? ⟨w.heap.size,1,none⟩=some (.int .i64 a)/\w'.cell? ⟨w.heap.size,2,none⟩=some (.int .i64 b)/\w'.cell? ⟨w.heap.size,3,none⟩=some (.int .i64 c)) 5 [] (.take 1 (.take 2 (.alt 0 (.take 3 (.alt 4 (.alt 5 (.done) (.stop)) (.stop))) (.alt 4 (.alt 0 (.take 3 (.alt 5 (.done) (.stop))) (.stop)) (.stop))))) (by kernel_rfl) (by kernel_rfl) (by kernel_rfl) (⟨b0,b1,b2,b3⟩) ?_
 simp only[fillT,lgz,Nat.reduceBEq]
 repeat first|(with_reducible apply po_take;(·(go_simp;done));(·(intro w' hS';(try dsimp only at hS');go_simp;try with_reducible rfl));simp only[lpa])|(with_reducible apply po_skip;(·(go_simp;done));simp only[lpa])
 with_reducible refine po_run ?_ (fun K hK=>?_) ?_
 ·(go_simp;done)
 ·
  go_simp
  refine (operations_any _).mono ?_
  rintro e w1 ⟨rfl,hb⟩
  replace HX:=HX.call hb
  clear hb b0 b1 b2 b3
  obtain⟨b0,b1,b2,b3,-,-,-,-⟩:=box4 HX 0 rfl
  refine hK.out _ _ (.inr (⟨b0,b1,b2,b3⟩)) ?_
  clear hK K
  repeat first|(with_reducible apply po_take;(·(go_simp;done));(·(intro w' hS';(try dsimp only at hS');go_simp;try with_reducible rfl));simp only[lpa])|(with_reducible apply po_skip;(·(go_simp;done));simp only[lpa])
  with_reducible refine po_last ?_ (fun K hK=>?_)
  ·(go_simp;done)
  go_simp
  replace HX:=HX.box [.int .i64 0,.int .i64 0,.nilFunc,.nilFunc] 125
  try simp only[drew_size,World.size_alloc]at HX
  clear b0 b1 b2 b3
  revert HX;generalize World.alloc _ _=wz;intro HX
  obtain⟨b0,b1,b2,b3,-,-,-,-⟩:=box4 HX 1 rfl
  refine hK.out _ _ (.inr (⟨b0,b1,b2,b3⟩)) ?_
  clear hK K
  with_reducible refine po_last ?_ (fun K hK=>?_)
  ·(go_simp;done)
  obtain⟨x0,x1,x2,x3,y0,y1,y2,y3⟩:=box4 HX 0 rfl
  go_simp
  clear x0 x1 x2 x3 y0 y1 y2 y3
  replace HX:=(((HX.putBox 0 rfl 0 (.int .i64 3)).putBox 0 rfl 1 (.int .i64 99)).putBox 0 rfl 2 (fnV 108)).putBox 0 rfl 3 (.nilFunc)
  simp only[lsz]at HX
  clear b0 b1 b2 b3
  obtain⟨b0,b1,b2,b3,-,-,-,-⟩:=box4 HX 1 rfl
  refine hK.out _ _ (.inl rfl) ?_
  clear hK K
  clear b0 b1 b2 b3
  refine po_done ?_
  obtain⟨b0,b1,b2,b3,-,-,-,-⟩:=box4 HX 1 rfl
  obtain⟨x0,x1,x2,x3,-,-,-,-⟩:=box4 HX 0 rfl
  have HB:=HX.below
  clear HX
  by_cases h1:a<0
  ·have HV:=hid (T1.out h1)
   have q1:¬ 0<=a:=by omega
   go_wp2
   go_ret
   exact⟨ret_b HV.out.symm,HB⟩
  have q1:0<=a:=by omega
  by_cases h2:a<4
  rotate_left
  ·have HV:=hid (T2.out (by omega))
   go_wp2
   go_ret
   exact⟨ret_b HV.out.symm,HB⟩
  by_cases h3:b<0
  ·have HV:=hid (T3.out h3)
   have q2:¬ 0<=b:=by omega
   go_wp2
   go_ret
   exact⟨ret_b HV.out.symm,HB⟩
  have q2:0<=b:=by omega
  by_cases h4:3<b
  ·have HV:=hid (T4.out h4)
   have q3:¬ b<=3:=by omega
   go_wp2
   go_ret
   exact⟨ret_b HV.out.symm,HB⟩
  have q3:b<=3:=by omega
  by_cases h5:c<0
  ·have HV:=hid (T5.out h5)
   have q4:¬ 0<=c:=by omega
   go_wp2
   go_ret
   exact⟨ret_b HV.out.symm,HB⟩
  have q4:0<=c:=by omega
  by_cases h6:99<c
  ·have HV:=hid (T6.out h6)
   have q5:¬ c<=99:=by omega
   go_wp2
   go_ret
   exact⟨ret_b HV.out.symm,HB⟩
  have q5:c<=99:=by omega
  have HV:=hid (T7.out q1 h2 q2 q3 q4 q5)
  go_wp2
  go_ret
  exact⟨ret_b HV.out.symm,HB⟩
 with_reducible refine po_last ?_ (fun K hK=>?_)
 ·(go_simp;done)
 go_simp
 replace HX:=HX.box [.int .i64 0,.int .i64 0,.nilFunc,.nilFunc] 125
 try simp only[drew_size,World.size_alloc]at HX
 clear b0 b1 b2 b3
 obtain⟨b0,b1,b2,b3,-,-,-,-⟩:=box4 HX 1 rfl
 refine hK.out _ _ (.inr (⟨b0,b1,b2,b3⟩)) ?_
 clear hK K
 with_reducible refine po_last ?_ (fun K hK=>?_)
 ·(go_simp;done)
 go_simp
 refine (operations_any _).mono ?_
 rintro e w1 ⟨rfl,hb⟩
 replace HX:=HX.call hb
 clear hb b0 b1 b2 b3
 obtain⟨b0,b1,b2,b3,-,-,-,-⟩:=box4 HX 1 rfl
 refine hK.out _ _ (.inr (⟨b0,b1,b2,b3⟩)) ?_
 clear hK K
 repeat first|(with_reducible apply po_take;(·(go_simp;done));(·(intro w' hS';(try dsimp only at hS');go_simp;try with_reducible rfl));simp only[lpa])|(with_reducible apply po_skip;(·(go_simp;done));simp only[lpa])
 with_reducible refine po_last ?_ (fun K hK=>?_)
 ·(go_simp;done)
 obtain⟨x0,x1,x2,x3,y0,y1,y2,y3⟩:=box4 HX 0 rfl
 go_simp
 clear x0 x1 x2 x3 y0 y1 y2 y3
 replace HX:=(((HX.putBox 0 rfl 0 (.int .i64 3)).putBox 0 rfl 1 (.int .i64 99)).putBox 0 rfl 2 (fnV 108)).putBox 0 rfl 3 (.nilFunc)
 simp only[lsz]at HX
 clear b0 b1 b2 b3
 obtain⟨b0,b1,b2,b3,-,-,-,-⟩:=box4 HX 1 rfl
 refine hK.out _ _ (.inl rfl) ?_
 clear hK K
 clear b0 b1 b2 b3
 refine po_done ?_
 obtain⟨b0,b1,b2,b3,-,-,-,-⟩:=box4 HX 1 rfl
 obtain⟨x0,x1,x2,x3,-,-,-,-⟩:=box4 HX 0 rfl
 have HB:=HX.below
 clear HX
 by_cases h1:a<0
 ·have HV:=hid (T1.out h1)
  have q1:¬ 0<=a:=by omega
  go_wp2
  go_ret
  exact⟨ret_b HV.out.symm,HB⟩
 have q1:0<=a:=by omega
 by_cases h2:a<4
 rotate_left
 ·have HV:=hid (T2.out (by omega))
  go_wp2
  go_ret
  exact⟨ret_b HV.out.symm,HB⟩
 by_cases h3:b<0
 ·have HV:=hid (T3.out h3)
  have q2:¬ 0<=b:=by omega
  go_wp2
  go_ret
  exact⟨ret_b HV.out.symm,HB⟩
 have q2:0<=b:=by omega
 by_cases h4:3<b
 ·have HV:=hid (T4.out h4)
  have q3:¬ b<=3:=by omega
  go_wp2
  go_ret
  exact⟨ret_b HV.out.symm,HB⟩
 have q3:b<=3:=by omega
 by_cases h5:c<0
 ·have HV:=hid (T5.out h5)
  have q4:¬ 0<=c:=by omega
  go_wp2
  go_ret
  exact⟨ret_b HV.out.symm,HB⟩
 have q4:0<=c:=by omega
 by_cases h6:99<c
 ·have HV:=hid (T6.out h6)
  have q5:¬ c<=99:=by omega
  go_wp2
  go_ret
  exact⟨ret_b HV.out.symm,HB⟩
 have q5:c<=99:=by omega
 have HV:=hid (T7.out q1 h2 q2 q3 q4 q5)
 go_wp2
 go_ret
 exact⟨ret_b HV.out.symm,HB⟩
theorem opsAt_2 (w:World):(Instr.index 126 opsV (.int .i64 2)).run Tryz.prog w=.ok (.agg #[.int .i64 3,.int .i64 2,fnV 109,fnV 111]) w:=by kernel_rfl
theorem opsP_2 (w:World):(Instr.field 125 (.agg #[.int .i64 3,.int .i64 2,fnV 109,fnV 111]) 2).run Tryz.prog w=.ok (fnV 109) w:=by kernel_rfl
theorem opsR_2 (w:World):(Instr.field 125 (.agg #[.int .i64 3,.int .i64 2,fnV 109,fnV 111]) 3).run Tryz.prog w=.ok (fnV 111) w:=by kernel_rfl
set_option maxHeartbeats 3200000 in
set_option maxRecDepth 20000 in
theorem implCommandValid_2 (a b c:Int) (w:World):Calls Tryz.prog 60 #[cmdV ⟨2,a,b,c⟩] w fun e w'=>e=.returned (.bool (cmdOk ⟨2,a,b,c⟩))/\Below w.heap.size w w':=by
 have H:=(Owns.nil w).box [.int .i64 2,.int .i64 a,.int .i64 b,.int .i64 c] 79
 have hI:=opsAt_2
 obtain⟨t1,t2,t3,t4,t5,t6,t7⟩:=cmdOk_tests (cmdOk_t2 a b c)
 have T1:=hid t1
 have T2:=hid t2
 have T3:=hid t3
 have T4:=hid t4
 have T5:=hid t5
 have T6:=hid t6
 have T7:=hid t7
 clear t1 t2 t3 t4 t5 t6 t7
 obtain⟨b0,b1,b2,b3,-,-,-,-⟩:=box4 H 0 rfl
 go_enter Tryz.func60,Tryz.ntmps60
 go_wp2_with fail
 have HX:=H.drew
 clear b0 b1 b2 b3
 obtain⟨b0,b1,b2,b3,-,-,-,-⟩:=box4 HX 0 rfl
 refine wp_region_tree (fun w'=>w'.cell? ⟨w.heap.size,0,none⟩=some (.int .i64 2)/\w'.cell? ⟨w.heap.size,1,none⟩=some (.int .i64 a)/\w'.cell? ⟨w.heap.size,2,none⟩=some (.int .i64 b)/\w'.cell? ⟨w.heap.size,3,none⟩=some (.int .i64 c)) 5 [] (.take 1 (.take 2 (.alt 0 (.take 3 (.alt 4 (.alt 5 (.done) (.stop)) (.stop))) (.alt 4 (.alt 0 (.take 3 (.alt 5 (.done) (.stop))) (.stop)) (.stop))))) (by kernel_rfl) (by kernel_rfl) (by kernel_rfl) (⟨b0,b1,b2,b3⟩) ?_
 simp only[fillT,lgz,Nat.reduceBEq]
 repeat first|(with_reducible apply po_take;(·(go_simp;done));(·(intro w' hS';(try dsimp only at hS');go_simp;try with_reducible rfl));simp only[lpa])|(with_reducible apply po_skip;(·(go_simp;done));simp only[lpa])
 with_reducible refine po_run ?_ (fun K hK=>?_) ?_
 ·(go_simp;done)
 ·
  go_simp
  refine (operations_any _).mono ?_
  rintro e w1 ⟨rfl,hb⟩
  replace HX:=HX.call hb
  clear hb b0 b1 b2 b3
  obtain⟨b0,b1,b2,b3,-,-,-,-⟩:=box4 HX 0 rfl
  refine hK.out _ _ (.inr (⟨b0,b1,b2,b3⟩)) ?_
  clear hK K
  repeat first|(with_reducible apply po_take;(·(go_simp;done));(·(intro w' hS';(try dsimp only at hS');go_simp;try with_reducible rfl));simp only[lpa])|(with_reducible apply po_skip;(·(go_simp;done));simp only[lpa])
  with_reducible refine po_last ?_ (fun K hK=>?_)
  ·(go_simp;done)
  go_simp
  replace HX:=HX.box [.int .i64 0,.int .i64 0,.nilFunc,.nilFunc] 125
  try simp only[drew_size,World.size_alloc]at HX
  clear b0 b1 b2 b3
  revert HX;generalize World.alloc _ _=wz;intro HX
  obtain⟨b0,b1,b2,b3,-,-,-,-⟩:=box4 HX 1 rfl
  refine hK.out _ _ (.inr (⟨b0,b1,b2,b3⟩)) ?_
  clear hK K
  with_reducible refine po_last ?_ (fun K hK=>?_)
  ·(go_simp;done)
  obtain⟨x0,x1,x2,x3,y0,y1,y2,y3⟩:=box4 HX 0 rfl
  go_simp
  clear x0 x1 x2 x3 y0 y1 y2 y3
  replace HX:=(((HX.putBox 0 rfl 0 (.int .i64 3)).putBox 0 rfl 1 (.int .i64 2)).putBox 0 rfl 2 (fnV 109)).putBox 0 rfl 3 (fnV 111)
  simp only[lsz]at HX
  clear b0 b1 b2 b3
  obtain⟨b0,b1,b2,b3,-,-,-,-⟩:=box4 HX 1 rfl
  refine hK.out _ _ (.inl rfl) ?_
  clear hK K
  clear b0 b1 b2 b3
  refine po_done ?_
  obtain⟨b0,b1,b2,b3,-,-,-,-⟩:=box4 HX 1 rfl
  obtain⟨x0,x1,x2,x3,-,-,-,-⟩:=box4 HX 0 rfl
  have HB:=HX.below
  clear HX
  by_cases h1:a<0
  ·have HV:=hid (T1.out h1)
   have q1:¬ 0<=a:=by omega
   go_wp2
   go_ret
   exact⟨ret_b HV.out.symm,HB⟩
  have q1:0<=a:=by omega
  by_cases h2:a<4
  rotate_left
  ·have HV:=hid (T2.out (by omega))
   go_wp2
   go_ret
   exact⟨ret_b HV.out.symm,HB⟩
  by_cases h3:b<0
  ·have HV:=hid (T3.out h3)
   have q2:¬ 0<=b:=by omega
   go_wp2
   go_ret
   exact⟨ret_b HV.out.symm,HB⟩
  have q2:0<=b:=by omega
  by_cases h4:3<b
  ·have HV:=hid (T4.out h4)
   have q3:¬ b<=3:=by omega
   go_wp2
   go_ret
   exact⟨ret_b HV.out.symm,HB⟩
  have q3:b<=3:=by omega
  by_cases h5:c<0
  ·have HV:=hid (T5.out h5)
   have q4:¬ 0<=c:=by omega
   go_wp2
   go_ret
   exact⟨ret_b HV.out.symm,HB⟩
  have q4:0<=c:=by omega
  by_cases h6:2<c
  ·have HV:=hid (T6.out h6)
   have q5:¬ c<=2:=by omega
   go_wp2
   go_ret
   exact⟨ret_b HV.out.symm,HB⟩
  have q5:c<=2:=by omega
  have HV:=hid (T7.out q1 h2 q2 q3 q4 q5)
  go_wp2
  go_ret
  exact⟨ret_b HV.out.symm,HB⟩
 with_reducible refine po_last ?_ (fun K hK=>?_)
 ·(go_simp;done)
 go_simp
 replace HX:=HX.box [.int .i64 0,.int .i64 0,.nilFunc,.nilFunc] 125
 try simp only[drew_size,World.size_alloc]at HX
 clear b0 b1 b2 b3
 obtain⟨b0,b1,b2,b3,-,-,-,-⟩:=box4 HX 1 rfl
 refine hK.out _ _ (.inr (⟨b0,b1,b2,b3⟩)) ?_
 clear hK K
 with_reducible refine po_last ?_ (fun K hK=>?_)
 ·(go_simp;done)
 go_simp
 refine (operations_any _).mono ?_
 rintro e w1 ⟨rfl,hb⟩
 replace HX:=HX.call hb
 clear hb b0 b1 b2 b3
 obtain⟨b0,b1,b2,b3,-,-,-,-⟩:=box4 HX 1 rfl
 refine hK.out _ _ (.inr (⟨b0,b1,b2,b3⟩)) ?_
 clear hK K
 repeat first|(with_reducible apply po_take;(·(go_simp;done));(·(intro w' hS';(try dsimp only at hS');go_simp;try with_reducible rfl));simp only[lpa])|(with_reducible apply po_skip;(·(go_simp;done));simp only[lpa])
 with_reducible refine po_last ?_ (fun K hK=>?_)
 ·(go_simp;done)
 obtain⟨x0,x1,x2,x3,y0,y1,y2,y3⟩:=box4 HX 0 rfl
 go_simp
 clear x0 x1 x2 x3 y0 y1 y2 y3
 replace HX:=(((HX.putBox 0 rfl 0 (.int .i64 3)).putBox 0 rfl 1 (.int .i64 2)).putBox 0 rfl 2 (fnV 109)).putBox 0 rfl 3 (fnV 111)
 simp only[lsz]at HX
 clear b0 b1 b2 b3
 obtain⟨b0,b1,b2,b3,-,-,-,-⟩:=box4 HX 1 rfl
 refine hK.out _ _ (.inl rfl) ?_
 clear hK K
 clear b0 b1 b2 b3
 refine po_done ?_
 obtain⟨b0,b1,b2,b3,-,-,-,-⟩:=box4 HX 1 rfl
 obtain⟨x0,x1,x2,x3,-,-,-,-⟩:=box4 HX 0 rfl
 have HB:=HX.below
 clear HX
 by_cases h1:a<0
 ·have HV:=hid (T1.out h1)
  have q1:¬ 0<=a:=by omega
  go_wp2
  go_ret
  exact⟨ret_b HV.out.symm,HB⟩
 have q1:0<=a:=by omega
 by_cases h2:a<4
 rotate_left
 ·have HV:=hid (T2.out (by omega))
  go_wp2
  go_ret
  exact⟨ret_b HV.out.symm,HB⟩
 by_cases h3:b<0
 ·have HV:=hid (T3.out h3)
  have q2:¬ 0<=b:=by omega
  go_wp2
  go_ret
  exact⟨ret_b HV.out.symm,HB⟩
 have q2:0<=b:=by omega
 by_cases h4:3<b
 ·have HV:=hid (T4.out h4)
  have q3:¬ b<=3:=by omega
  go_wp2
  go_ret
  exact⟨ret_b HV.out.symm,HB⟩
 have q3:b<=3:=by omega
 by_cases h5:c<0
 ·have HV:=hid (T5.out h5)
  have q4:¬ 0<=c:=by omega
  go_wp2
  go_ret
  exact⟨ret_b HV.out.symm,HB⟩
 have q4:0<=c:=by omega
 by_cases h6:2<c
 ·have HV:=hid (T6.out h6)
  have q5:¬ c<=2:=by omega
  go_wp2
  go_ret
  exact⟨ret_b HV.out.symm,HB⟩
 have q5:c<=2:=by omega
 have HV:=hid (T7.out q1 h2 q2 q3 q4 q5)
 go_wp2
 go_ret
 exact⟨ret_b HV.out.symm,HB⟩
theorem opsAt_3 (w:World):(Instr.index 126 opsV (.int .i64 3)).run Tryz.prog w=.ok (.agg #[.int .i64 3,.int .i64 2,fnV 112,fnV 113]) w:=by kernel_rfl
theorem opsP_3 (w:World):(Instr.field 125 (.agg #[.int .i64 3,.int .i64 2,fnV 112,fnV 113]) 2).run Tryz.prog w=.ok (fnV 112) w:=by kernel_rfl
theorem opsR_3 (w:World):(Instr.field 125 (.agg #[.int .i64 3,.int .i64 2,fnV 112,fnV 113]) 3).run Tryz.prog w=.ok (fnV 113) w:=by kernel_rfl
set_option maxHeartbeats 3200000 in
set_option maxRecDepth 20000 in
theorem implCommandValid_3 (a b c:Int) (w:World):Calls Tryz.prog 60 #[cmdV ⟨3,a,b,c⟩] w fun e w'=>e=.returned (.bool (cmdOk ⟨3,a,b,c⟩))/\Below w.heap.size w w':=by
 have H:=(Owns.nil w).box [.int .i64 3,.int .i64 a,.int .i64 b,.int .i64 c] 79
 have hI:=opsAt_3
 obtain⟨t1,t2,t3,t4,t5,t6,t7⟩:=cmdOk_tests (cmdOk_t3 a b c)
 have T1:=hid t1
 have T2:=hid t2
 have T3:=hid t3
 have T4:=hid t4
 have T5:=hid t5
 have T6:=hid t6
 have T7:=hid t7
 clear t1 t2 t3 t4 t5 t6 t7
 obtain⟨b0,b1,b2,b3,-,-,-,-⟩:=box4 H 0 rfl
 go_enter Tryz.func60,Tryz.ntmps60
 go_wp2_with fail
 have HX:=H.drew
 clear b0 b1 b2 b3
 obtain⟨b0,b1,b2,b3,-,-,-,-⟩:=box4 HX 0 rfl
 refine wp_region_tree (fun w'=>w'.cell? ⟨w.heap.size,0,none⟩=some (.int .i64 3)/\w'.cell? ⟨w.heap.size,1,none⟩=some (.int .i64 a)/\w'.cell? ⟨w.heap.size,2,none⟩=some (.int .i64 b)/\w'.cell? ⟨w.heap.size,3,none⟩=some (.int .i64 c)) 5 [] (.take 1 (.take 2 (.alt 0 (.take 3 (.alt 4 (.alt 5 (.done) (.stop)) (.stop))) (.alt 4 (.alt 0 (.take 3 (.alt 5 (.done) (.stop))) (.stop)) (.stop))))) (by kernel_rfl) (by kernel_rfl) (by kernel_rfl) (⟨b0,b1,b2,b3⟩) ?_
 simp only[fillT,lgz,Nat.reduceBEq]
 repeat first|(with_reducible apply po_take;(·(go_simp;done));(·(intro w' hS';(try dsimp only at hS');go_simp;try with_reducible rfl));simp only[lpa])|(with_reducible apply po_skip;(·(go_simp;done));simp only[lpa])
 with_reducible refine po_run ?_ (fun K hK=>?_) ?_
 ·(go_simp;done)
 ·
  go_simp
  refine (operations_any _).mono ?_
  rintro e w1 ⟨rfl,hb⟩
  replace HX:=HX.call hb
  clear hb b0 b1 b2 b3
  obtain⟨b0,b1,b2,b3,-,-,-,-⟩:=box4 HX 0 rfl
  refine hK.out _ _ (.inr (⟨b0,b1,b2,b3⟩)) ?_
  clear hK K
  repeat first|(with_reducible apply po_take;(·(go_simp;done));(·(intro w' hS';(try dsimp only at hS');go_simp;try with_reducible rfl));simp only[lpa])|(with_reducible apply po_skip;(·(go_simp;done));simp only[lpa])
  with_reducible refine po_last ?_ (fun K hK=>?_)
  ·(go_simp;done)
  go_simp
  replace HX:=HX.box [.int .i64 0,.int .i64 0,.nilFunc,.nilFunc] 125
  try simp only[drew_size,World.size_alloc]at HX
  clear b0 b1 b2 b3
  revert HX;generalize World.alloc _ _=wz;intro HX
  obtain⟨b0,b1,b2,b3,-,-,-,-⟩:=box4 HX 1 rfl
  refine hK.out _ _ (.inr (⟨b0,b1,b2,b3⟩)) ?_
  clear hK K
  with_reducible refine po_last ?_ (fun K hK=>?_)
  ·(go_simp;done)
  obtain⟨x0,x1,x2,x3,y0,y1,y2,y3⟩:=box4 HX 0 rfl
  go_simp
  clear x0 x1 x2 x3 y0 y1 y2 y3
  replace HX:=(((HX.putBox 0 rfl 0 (.int .i64 3)).putBox 0 rfl 1 (.int .i64 2)).putBox 0 rfl 2 (fnV 112)).putBox 0 rfl 3 (fnV 113)
  simp only[lsz]at HX
  clear b0 b1 b2 b3
  obtain⟨b0,b1,b2,b3,-,-,-,-⟩:=box4 HX 1 rfl
  refine hK.out _ _ (.inl rfl) ?_
  clear hK K
  clear b0 b1 b2 b3
  refine po_done ?_
  obtain⟨b0,b1,b2,b3,-,-,-,-⟩:=box4 HX 1 rfl
  obtain⟨x0,x1,x2,x3,-,-,-,-⟩:=box4 HX 0 rfl
  have HB:=HX.below
  clear HX
  by_cases h1:a<0
  ·have HV:=hid (T1.out h1)
   have q1:¬ 0<=a:=by omega
   go_wp2
   go_ret
   exact⟨ret_b HV.out.symm,HB⟩
  have q1:0<=a:=by omega
  by_cases h2:a<4
  rotate_left
  ·have HV:=hid (T2.out (by omega))
   go_wp2
   go_ret
   exact⟨ret_b HV.out.symm,HB⟩
  by_cases h3:b<0
  ·have HV:=hid (T3.out h3)
   have q2:¬ 0<=b:=by omega
   go_wp2
   go_ret
   exact⟨ret_b HV.out.symm,HB⟩
  have q2:0<=b:=by omega
  by_cases h4:3<b
  ·have HV:=hid (T4.out h4)
   have q3:¬ b<=3:=by omega
   go_wp2
   go_ret
   exact⟨ret_b HV.out.symm,HB⟩
  have q3:b<=3:=by omega
  by_cases h5:c<0
  ·have HV:=hid (T5.out h5)
   have q4:¬ 0<=c:=by omega
   go_wp2
   go_ret
   exact⟨ret_b HV.out.symm,HB⟩
  have q4:0<=c:=by omega
  by_cases h6:2<c
  ·have HV:=hid (T6.out h6)
   have q5:¬ c<=2:=by omega
   go_wp2
   go_ret
   exact⟨ret_b HV.out.symm,HB⟩
  have q5:c<=2:=by omega
  have HV:=hid (T7.out q1 h2 q2 q3 q4 q5)
  go_wp2
  go_ret
  exact⟨ret_b HV.out.symm,HB⟩
 with_reducible refine po_last ?_ (fun K hK=>?_)
 ·(go_simp;done)
 go_simp
 replace HX:=HX.box [.int .i64 0,.int .i64 0,.nilFunc,.nilFunc] 125
 try simp only[drew_size,World.size_alloc]at HX
 clear b0 b1 b2 b3
 obtain⟨b0,b1,b2,b3,-,-,-,-⟩:=box4 HX 1 rfl
 refine hK.out _ _ (.inr (⟨b0,b1,b2,b3⟩)) ?_
 clear hK K
 with_reducible refine po_last ?_ (fun K hK=>?_)
 ·(go_simp;done)
 go_simp
 refine (operations_any _).mono ?_
 rintro e w1 ⟨rfl,hb⟩
 replace HX:=HX.call hb
 clear hb b0 b1 b2 b3
 obtain⟨b0,b1,b2,b3,-,-,-,-⟩:=box4 HX 1 rfl
 refine hK.out _ _ (.inr (⟨b0,b1,b2,b3⟩)) ?_
 clear hK K
 repeat first|(with_reducible apply po_take;(·(go_simp;done));(·(intro w' hS';(try dsimp only at hS');go_simp;try with_reducible rfl));simp only[lpa])|(with_reducible apply po_skip;(·(go_simp;done));simp only[lpa])
 with_reducible refine po_last ?_ (fun K hK=>?_)
 ·(go_simp;done)
 obtain⟨x0,x1,x2,x3,y0,y1,y2,y3⟩:=box4 HX 0 rfl
 go_simp
 clear x0 x1 x2 x3 y0 y1 y2 y3
 replace HX:=(((HX.putBox 0 rfl 0 (.int .i64 3)).putBox 0 rfl 1 (.int .i64 2)).putBox 0 rfl 2 (fnV 112)).putBox 0 rfl 3 (fnV 113)
 simp only[lsz]at HX
 clear b0 b1 b2 b3
 obtain⟨b0,b1,b2,b3,-,-,-,-⟩:=box4 HX 1 rfl
 refine hK.out _ _ (.inl rfl) ?_
 clear hK K
 clear b0 b1 b2 b3
 refine po_done ?_
 obtain⟨b0,b1,b2,b3,-,-,-,-⟩:=box4 HX 1 rfl
 obtain⟨x0,x1,x2,x3,-,-,-,-⟩:=box4 HX 0 rfl
 have HB:=HX.below
 clear HX
 by_cases h1:a<0
 ·have HV:=hid (T1.out h1)
  have q1:¬ 0<=a:=by omega
  go_wp2
  go_ret
  exact⟨ret_b HV.out.symm,HB⟩
 have q1:0<=a:=by omega
 by_cases h2:a<4
 rotate_left
 ·have HV:=hid (T2.out (by omega))
  go_wp2
  go_ret
  exact⟨ret_b HV.out.symm,HB⟩
 by_cases h3:b<0
 ·have HV:=hid (T3.out h3)
  have q2:¬ 0<=b:=by omega
  go_wp2
  go_ret
  exact⟨ret_b HV.out.symm,HB⟩
 have q2:0<=b:=by omega
 by_cases h4:3<b
 ·have HV:=hid (T4.out h4)
  have q3:¬ b<=3:=by omega
  go_wp2
  go_ret
  exact⟨ret_b HV.out.symm,HB⟩
 have q3:b<=3:=by omega
 by_cases h5:c<0
 ·have HV:=hid (T5.out h5)
  have q4:¬ 0<=c:=by omega
  go_wp2
  go_ret
  exact⟨ret_b HV.out.symm,HB⟩
 have q4:0<=c:=by omega
 by_cases h6:2<c
 ·have HV:=hid (T6.out h6)
  have q5:¬ c<=2:=by omega
  go_wp2
  go_ret
  exact⟨ret_b HV.out.symm,HB⟩
 have q5:c<=2:=by omega
 have HV:=hid (T7.out q1 h2 q2 q3 q4 q5)
 go_wp2
 go_ret
 exact⟨ret_b HV.out.symm,HB⟩
theorem opsAt_4 (w:World):(Instr.index 126 opsV (.int .i64 4)).run Tryz.prog w=.ok (.agg #[.int .i64 3,.int .i64 0,fnV 108,fnV 114]) w:=by kernel_rfl
theorem opsP_4 (w:World):(Instr.field 125 (.agg #[.int .i64 3,.int .i64 0,fnV 108,fnV 114]) 2).run Tryz.prog w=.ok (fnV 108) w:=by kernel_rfl
theorem opsR_4 (w:World):(Instr.field 125 (.agg #[.int .i64 3,.int .i64 0,fnV 108,fnV 114]) 3).run Tryz.prog w=.ok (fnV 114) w:=by kernel_rfl
set_option maxHeartbeats 3200000 in
set_option maxRecDepth 20000 in
theorem implCommandValid_4 (a b c:Int) (w:World):Calls Tryz.prog 60 #[cmdV ⟨4,a,b,c⟩] w fun e w'=>e=.returned (.bool (cmdOk ⟨4,a,b,c⟩))/\Below w.heap.size w w':=by
 have H:=(Owns.nil w).box [.int .i64 4,.int .i64 a,.int .i64 b,.int .i64 c] 79
 have hI:=opsAt_4
 obtain⟨t1,t2,t3,t4,t5,t6,t7⟩:=cmdOk_tests (cmdOk_t4 a b c)
 have T1:=hid t1
 have T2:=hid t2
 have T3:=hid t3
 have T4:=hid t4
 have T5:=hid t5
 have T6:=hid t6
 have T7:=hid t7
 clear t1 t2 t3 t4 t5 t6 t7
 obtain⟨b0,b1,b2,b3,-,-,-,-⟩:=box4 H 0 rfl
 go_enter Tryz.func60,Tryz.ntmps60
 go_wp2_with fail
 have HX:=H.drew
 clear b0 b1 b2 b3
 obtain⟨b0,b1,b2,b3,-,-,-,-⟩:=box4 HX 0 rfl
 refine wp_region_tree (fun w'=>w'.cell? ⟨w.heap.size,0,none⟩=some (.int .i64 4)/\w'.cell? ⟨w.heap.size,1,none⟩=some (.int .i64 a)/\w'.cell? ⟨w.heap.size,2,none⟩=some (.int .i64 b)/\w'.cell? ⟨w.heap.size,3,none⟩=some (.int .i64 c)) 5 [] (.take 1 (.take 2 (.alt 0 (.take 3 (.alt 4 (.alt 5 (.done) (.stop)) (.stop))) (.alt 4 (.alt 0 (.take 3 (.alt 5 (.done) (.stop))) (.stop)) (.stop))))) (by kernel_rfl) (by kernel_rfl) (by kernel_rfl) (⟨b0,b1,b2,b3⟩) ?_
 simp only[fillT,lgz,Nat.reduceBEq]
 repeat first|(with_reducible apply po_take;(·(go_simp;done));(·(intro w' hS';(try dsimp only at hS');go_simp;try with_reducible rfl));simp only[lpa])|(with_reducible apply po_skip;(·(go_simp;done));simp only[lpa])
 with_reducible refine po_run ?_ (fun K hK=>?_) ?_
 ·(go_simp;done)
 ·
  go_simp
  refine (operations_any _).mono ?_
  rintro e w1 ⟨rfl,hb⟩
  replace HX:=HX.call hb
  clear hb b0 b1 b2 b3
  obtain⟨b0,b1,b2,b3,-,-,-,-⟩:=box4 HX 0 rfl
  refine hK.out _ _ (.inr (⟨b0,b1,b2,b3⟩)) ?_
  clear hK K
  repeat first|(with_reducible apply po_take;(·(go_simp;done));(·(intro w' hS';(try dsimp only at hS');go_simp;try with_reducible rfl));simp only[lpa])|(with_reducible apply po_skip;(·(go_simp;done));simp only[lpa])
  with_reducible refine po_last ?_ (fun K hK=>?_)
  ·(go_simp;done)
  go_simp
  replace HX:=HX.box [.int .i64 0,.int .i64 0,.nilFunc,.nilFunc] 125
  try simp only[drew_size,World.size_alloc]at HX
  clear b0 b1 b2 b3
  revert HX;generalize World.alloc _ _=wz;intro HX
  obtain⟨b0,b1,b2,b3,-,-,-,-⟩:=box4 HX 1 rfl
  refine hK.out _ _ (.inr (⟨b0,b1,b2,b3⟩)) ?_
  clear hK K
  with_reducible refine po_last ?_ (fun K hK=>?_)
  ·(go_simp;done)
  obtain⟨x0,x1,x2,x3,y0,y1,y2,y3⟩:=box4 HX 0 rfl
  go_simp
  clear x0 x1 x2 x3 y0 y1 y2 y3
  replace HX:=(((HX.putBox 0 rfl 0 (.int .i64 3)).putBox 0 rfl 1 (.int .i64 0)).putBox 0 rfl 2 (fnV 108)).putBox 0 rfl 3 (fnV 114)
  simp only[lsz]at HX
  clear b0 b1 b2 b3
  obtain⟨b0,b1,b2,b3,-,-,-,-⟩:=box4 HX 1 rfl
  refine hK.out _ _ (.inl rfl) ?_
  clear hK K
  clear b0 b1 b2 b3
  refine po_done ?_
  obtain⟨b0,b1,b2,b3,-,-,-,-⟩:=box4 HX 1 rfl
  obtain⟨x0,x1,x2,x3,-,-,-,-⟩:=box4 HX 0 rfl
  have HB:=HX.below
  clear HX
  by_cases h1:a<0
  ·have HV:=hid (T1.out h1)
   have q1:¬ 0<=a:=by omega
   go_wp2
   go_ret
   exact⟨ret_b HV.out.symm,HB⟩
  have q1:0<=a:=by omega
  by_cases h2:a<4
  rotate_left
  ·have HV:=hid (T2.out (by omega))
   go_wp2
   go_ret
   exact⟨ret_b HV.out.symm,HB⟩
  by_cases h3:b<0
  ·have HV:=hid (T3.out h3)
   have q2:¬ 0<=b:=by omega
   go_wp2
   go_ret
   exact⟨ret_b HV.out.symm,HB⟩
  have q2:0<=b:=by omega
  by_cases h4:3<b
  ·have HV:=hid (T4.out h4)
   have q3:¬ b<=3:=by omega
   go_wp2
   go_ret
   exact⟨ret_b HV.out.symm,HB⟩
  have q3:b<=3:=by omega
  by_cases h5:c<0
  ·have HV:=hid (T5.out h5)
   have q4:¬ 0<=c:=by omega
   go_wp2
   go_ret
   exact⟨ret_b HV.out.symm,HB⟩
  have q4:0<=c:=by omega
  by_cases h6:0<c
  ·have HV:=hid (T6.out h6)
   have q5:¬ c<=0:=by omega
   go_wp2
   go_ret
   exact⟨ret_b HV.out.symm,HB⟩
  have q5:c<=0:=by omega
  have HV:=hid (T7.out q1 h2 q2 q3 q4 q5)
  go_wp2
  go_ret
  exact⟨ret_b HV.out.symm,HB⟩
 with_reducible refine po_last ?_ (fun K hK=>?_)
 ·(go_simp;done)
 go_simp
 replace HX:=HX.box [.int .i64 0,.int .i64 0,.nilFunc,.nilFunc] 125
 try simp only[drew_size,World.size_alloc]at HX
 clear b0 b1 b2 b3
 obtain⟨b0,b1,b2,b3,-,-,-,-⟩:=box4 HX 1 rfl
 refine hK.out _ _ (.inr (⟨b0,b1,b2,b3⟩)) ?_
 clear hK K
 with_reducible refine po_last ?_ (fun K hK=>?_)
 ·(go_simp;done)
 go_simp
 refine (operations_any _).mono ?_
 rintro e w1 ⟨rfl,hb⟩
 replace HX:=HX.call hb
 clear hb b0 b1 b2 b3
 obtain⟨b0,b1,b2,b3,-,-,-,-⟩:=box4 HX 1 rfl
 refine hK.out _ _ (.inr (⟨b0,b1,b2,b3⟩)) ?_
 clear hK K
 repeat first|(with_reducible apply po_take;(·(go_simp;done));(·(intro w' hS';(try dsimp only at hS');go_simp;try with_reducible rfl));simp only[lpa])|(with_reducible apply po_skip;(·(go_simp;done));simp only[lpa])
 with_reducible refine po_last ?_ (fun K hK=>?_)
 ·(go_simp;done)
 obtain⟨x0,x1,x2,x3,y0,y1,y2,y3⟩:=box4 HX 0 rfl
 go_simp
 clear x0 x1 x2 x3 y0 y1 y2 y3
 replace HX:=(((HX.putBox 0 rfl 0 (.int .i64 3)).putBox 0 rfl 1 (.int .i64 0)).putBox 0 rfl 2 (fnV 108)).putBox 0 rfl 3 (fnV 114)
 simp only[lsz]at HX
 clear b0 b1 b2 b3
 obtain⟨b0,b1,b2,b3,-,-,-,-⟩:=box4 HX 1 rfl
 refine hK.out _ _ (.inl rfl) ?_
 clear hK K
 clear b0 b1 b2 b3
 refine po_done ?_
 obtain⟨b0,b1,b2,b3,-,-,-,-⟩:=box4 HX 1 rfl
 obtain⟨x0,x1,x2,x3,-,-,-,-⟩:=box4 HX 0 rfl
 have HB:=HX.below
 clear HX
 by_cases h1:a<0
 ·have HV:=hid (T1.out h1)
  have q1:¬ 0<=a:=by omega
  go_wp2
  go_ret
  exact⟨ret_b HV.out.symm,HB⟩
 have q1:0<=a:=by omega
 by_cases h2:a<4
 rotate_left
 ·have HV:=hid (T2.out (by omega))
  go_wp2
  go_ret
  exact⟨ret_b HV.out.symm,HB⟩
 by_cases h3:b<0
 ·have HV:=hid (T3.out h3)
  have q2:¬ 0<=b:=by omega
  go_wp2
  go_ret
  exact⟨ret_b HV.out.symm,HB⟩
 have q2:0<=b:=by omega
 by_cases h4:3<b
 ·have HV:=hid (T4.out h4)
  have q3:¬ b<=3:=by omega
  go_wp2
  go_ret
  exact⟨ret_b HV.out.symm,HB⟩
 have q3:b<=3:=by omega
 by_cases h5:c<0
 ·have HV:=hid (T5.out h5)
  have q4:¬ 0<=c:=by omega
  go_wp2
  go_ret
  exact⟨ret_b HV.out.symm,HB⟩
 have q4:0<=c:=by omega
 by_cases h6:0<c
 ·have HV:=hid (T6.out h6)
  have q5:¬ c<=0:=by omega
  go_wp2
  go_ret
  exact⟨ret_b HV.out.symm,HB⟩
 have q5:c<=0:=by omega
 have HV:=hid (T7.out q1 h2 q2 q3 q4 q5)
 go_wp2
 go_ret
 exact⟨ret_b HV.out.symm,HB⟩
theorem opsAt_5 (w:World):(Instr.index 126 opsV (.int .i64 5)).run Tryz.prog w=.ok (.agg #[.int .i64 0,.int .i64 0,fnV 108,fnV 115]) w:=by kernel_rfl
theorem opsP_5 (w:World):(Instr.field 125 (.agg #[.int .i64 0,.int .i64 0,fnV 108,fnV 115]) 2).run Tryz.prog w=.ok (fnV 108) w:=by kernel_rfl
theorem opsR_5 (w:World):(Instr.field 125 (.agg #[.int .i64 0,.int .i64 0,fnV 108,fnV 115]) 3).run Tryz.prog w=.ok (fnV 115) w:=by kernel_rfl
set_option maxHeartbeats 3200000 in
set_option maxRecDepth 20000 in
theorem implCommandValid_5 (a b c:Int) (w:World):Calls Tryz.prog 60 #[cmdV ⟨5,a,b,c⟩] w fun e w'=>e=.returned (.bool (cmdOk ⟨5,a,b,c⟩))/\Below w.heap.size w w':=by
 have H:=(Owns.nil w).box [.int .i64 5,.int .i64 a,.int .i64 b,.int .i64 c] 79
 have hI:=opsAt_5
 obtain⟨t1,t2,t3,t4,t5,t6,t7⟩:=cmdOk_tests (cmdOk_t5 a b c)
 have T1:=hid t1
 have T2:=hid t2
 have T3:=hid t3
 have T4:=hid t4
 have T5:=hid t5
 have T6:=hid t6
 have T7:=hid t7
 clear t1 t2 t3 t4 t5 t6 t7
 obtain⟨b0,b1,b2,b3,-,-,-,-⟩:=box4 H 0 rfl
 go_enter Tryz.func60,Tryz.ntmps60
 go_wp2_with fail
 have HX:=H.drew
 clear b0 b1 b2 b3
 obtain⟨b0,b1,b2,b3,-,-,-,-⟩:=box4 HX 0 rfl
 refine wp_region_tree (fun w'=>w'.cell? ⟨w.heap.size,0,none⟩=some (.int .i64 5)/\w'.cell? ⟨w.heap.size,1,none⟩=some (.int .i64 a)/\w'.cell? ⟨w.heap.size,2,none⟩=some (.int .i64 b)/\w'.cell? ⟨w.heap.size,3,none⟩=some (.int .i64 c)) 5 [] (.take 1 (.take 2 (.alt 0 (.take 3 (.alt 4 (.alt 5 (.done) (.stop)) (.stop))) (.alt 4 (.alt 0 (.take 3 (.alt 5 (.done) (.stop))) (.stop)) (.stop))))) (by kernel_rfl) (by kernel_rfl) (by kernel_rfl) (⟨b0,b1,b2,b3⟩) ?_
 simp only[fillT,lgz,Nat.reduceBEq]
 repeat first|(with_reducible apply po_take;(·(go_simp;done));(·(intro w' hS';(try dsimp only at hS');go_simp;try with_reducible rfl));simp only[lpa])|(with_reducible apply po_skip;(·(go_simp;done));simp only[lpa])
 with_reducible refine po_run ?_ (fun K hK=>?_) ?_
 ·(go_simp;done)
 ·
  go_simp
  refine (operations_any _).mono ?_
  rintro e w1 ⟨rfl,hb⟩
  replace HX:=HX.call hb
  clear hb b0 b1 b2 b3
  obtain⟨b0,b1,b2,b3,-,-,-,-⟩:=box4 HX 0 rfl
  refine hK.out _ _ (.inr (⟨b0,b1,b2,b3⟩)) ?_
  clear hK K
  repeat first|(with_reducible apply po_take;(·(go_simp;done));(·(intro w' hS';(try dsimp only at hS');go_simp;try with_reducible rfl));simp only[lpa])|(with_reducible apply po_skip;(·(go_simp;done));simp only[lpa])
  with_reducible refine po_last ?_ (fun K hK=>?_)
  ·(go_simp;done)
  go_simp
  replace HX:=HX.box [.int .i64 0,.int .i64 0,.nilFunc,.nilFunc] 125
  try simp only[drew_size,World.size_alloc]at HX
  clear b0 b1 b2 b3
  revert HX;generalize World.alloc _ _=wz;intro HX
  obtain⟨b0,b1,b2,b3,-,-,-,-⟩:=box4 HX 1 rfl
  refine hK.out _ _ (.inr (⟨b0,b1,b2,b3⟩)) ?_
  clear hK K
  with_reducible refine po_last ?_ (fun K hK=>?_)
  ·(go_simp;done)
  obtain⟨x0,x1,x2,x3,y0,y1,y2,y3⟩:=box4 HX 0 rfl
  go_simp
  clear x0 x1 x2 x3 y0 y1 y2 y3
  replace HX:=(((HX.putBox 0 rfl 0 (.int .i64 0)).putBox 0 rfl 1 (.int .i64 0)).putBox 0 rfl 2 (fnV 108)).putBox 0 rfl 3 (fnV 115)
  simp only[lsz]at HX
  clear b0 b1 b2 b3
  obtain⟨b0,b1,b2,b3,-,-,-,-⟩:=box4 HX 1 rfl
  refine hK.out _ _ (.inl rfl) ?_
  clear hK K
  clear b0 b1 b2 b3
  refine po_done ?_
  obtain⟨b0,b1,b2,b3,-,-,-,-⟩:=box4 HX 1 rfl
  obtain⟨x0,x1,x2,x3,-,-,-,-⟩:=box4 HX 0 rfl
  have HB:=HX.below
  clear HX
  by_cases h1:a<0
  ·have HV:=hid (T1.out h1)
   have q1:¬ 0<=a:=by omega
   go_wp2
   go_ret
   exact⟨ret_b HV.out.symm,HB⟩
  have q1:0<=a:=by omega
  by_cases h2:a<4
  rotate_left
  ·have HV:=hid (T2.out (by omega))
   go_wp2
   go_ret
   exact⟨ret_b HV.out.symm,HB⟩
  by_cases h3:b<0
  ·have HV:=hid (T3.out h3)
   have q2:¬ 0<=b:=by omega
   go_wp2
   go_ret
   exact⟨ret_b HV.out.symm,HB⟩
  have q2:0<=b:=by omega
  by_cases h4:0<b
  ·have HV:=hid (T4.out h4)
   have q3:¬ b<=0:=by omega
   go_wp2
   go_ret
   exact⟨ret_b HV.out.symm,HB⟩
  have q3:b<=0:=by omega
  by_cases h5:c<0
  ·have HV:=hid (T5.out h5)
   have q4:¬ 0<=c:=by omega
   go_wp2
   go_ret
   exact⟨ret_b HV.out.symm,HB⟩
  have q4:0<=c:=by omega
  by_cases h6:0<c
  ·have HV:=hid (T6.out h6)
   have q5:¬ c<=0:=by omega
   go_wp2
   go_ret
   exact⟨ret_b HV.out.symm,HB⟩
  have q5:c<=0:=by omega
  have HV:=hid (T7.out q1 h2 q2 q3 q4 q5)
  go_wp2
  go_ret
  exact⟨ret_b HV.out.symm,HB⟩
 with_reducible refine po_last ?_ (fun K hK=>?_)
 ·(go_simp;done)
 go_simp
 replace HX:=HX.box [.int .i64 0,.int .i64 0,.nilFunc,.nilFunc] 125
 try simp only[drew_size,World.size_alloc]at HX
 clear b0 b1 b2 b3
 obtain⟨b0,b1,b2,b3,-,-,-,-⟩:=box4 HX 1 rfl
 refine hK.out _ _ (.inr (⟨b0,b1,b2,b3⟩)) ?_
 clear hK K
 with_reducible refine po_last ?_ (fun K hK=>?_)
 ·(go_simp;done)
 go_simp
 refine (operations_any _).mono ?_
 rintro e w1 ⟨rfl,hb⟩
 replace HX:=HX.call hb
 clear hb b0 b1 b2 b3
 obtain⟨b0,b1,b2,b3,-,-,-,-⟩:=box4 HX 1 rfl
 refine hK.out _ _ (.inr (⟨b0,b1,b2,b3⟩)) ?_
 clear hK K
 repeat first|(with_reducible apply po_take;(·(go_simp;done));(·(intro w' hS';(try dsimp only at hS');go_simp;try with_reducible rfl));simp only[lpa])|(with_reducible apply po_skip;(·(go_simp;done));simp only[lpa])
 with_reducible refine po_last ?_ (fun K hK=>?_)
 ·(go_simp;done)
 obtain⟨x0,x1,x2,x3,y0,y1,y2,y3⟩:=box4 HX 0 rfl
 go_simp
 clear x0 x1 x2 x3 y0 y1 y2 y3
 replace HX:=(((HX.putBox 0 rfl 0 (.int .i64 0)).putBox 0 rfl 1 (.int .i64 0)).putBox 0 rfl 2 (fnV 108)).putBox 0 rfl 3 (fnV 115)
 simp only[lsz]at HX
 clear b0 b1 b2 b3
 obtain⟨b0,b1,b2,b3,-,-,-,-⟩:=box4 HX 1 rfl
 refine hK.out _ _ (.inl rfl) ?_
 clear hK K
 clear b0 b1 b2 b3
 refine po_done ?_
 obtain⟨b0,b1,b2,b3,-,-,-,-⟩:=box4 HX 1 rfl
 obtain⟨x0,x1,x2,x3,-,-,-,-⟩:=box4 HX 0 rfl
 have HB:=HX.below
 clear HX
 by_cases h1:a<0
 ·have HV:=hid (T1.out h1)
  have q1:¬ 0<=a:=by omega
  go_wp2
  go_ret
  exact⟨ret_b HV.out.symm,HB⟩
 have q1:0<=a:=by omega
 by_cases h2:a<4
 rotate_left
 ·have HV:=hid (T2.out (by omega))
  go_wp2
  go_ret
  exact⟨ret_b HV.out.symm,HB⟩
 by_cases h3:b<0
 ·have HV:=hid (T3.out h3)
  have q2:¬ 0<=b:=by omega
  go_wp2
  go_ret
  exact⟨ret_b HV.out.symm,HB⟩
 have q2:0<=b:=by omega
 by_cases h4:0<b
 ·have HV:=hid (T4.out h4)
  have q3:¬ b<=0:=by omega
  go_wp2
  go_ret
  exact⟨ret_b HV.out.symm,HB⟩
 have q3:b<=0:=by omega
 by_cases h5:c<0
 ·have HV:=hid (T5.out h5)
  have q4:¬ 0<=c:=by omega
  go_wp2
  go_ret
  exact⟨ret_b HV.out.symm,HB⟩
 have q4:0<=c:=by omega
 by_cases h6:0<c
 ·have HV:=hid (T6.out h6)
  have q5:¬ c<=0:=by omega
  go_wp2
  go_ret
  exact⟨ret_b HV.out.symm,HB⟩
 have q5:c<=0:=by omega
 have HV:=hid (T7.out q1 h2 q2 q3 q4 q5)
 go_wp2
 go_ret
 exact⟨ret_b HV.out.symm,HB⟩
theorem opsAt_6 (w:World):(Instr.index 126 opsV (.int .i64 6)).run Tryz.prog w=.ok (.agg #[.int .i64 99,.int .i64 0,fnV 116,fnV 117]) w:=by kernel_rfl
theorem opsP_6 (w:World):(Instr.field 125 (.agg #[.int .i64 99,.int .i64 0,fnV 116,fnV 117]) 2).run Tryz.prog w=.ok (fnV 116) w:=by kernel_rfl
theorem opsR_6 (w:World):(Instr.field 125 (.agg #[.int .i64 99,.int .i64 0,fnV 116,fnV 117]) 3).run Tryz.prog w=.ok (fnV 117) w:=by kernel_rfl
set_option maxHeartbeats 3200000 in
set_option maxRecDepth 20000 in
theorem implCommandValid_6 (a b c:Int) (w:World):Calls Tryz.prog 60 #[cmdV ⟨6,a,b,c⟩] w fun e w'=>e=.returned (.bool (cmdOk ⟨6,a,b,c⟩))/\Below w.heap.size w w':=by
 have H:=(Owns.nil w).box [.int .i64 6,.int .i64 a,.int .i64 b,.int .i64 c] 79
 have hI:=opsAt_6
 obtain⟨t1,t2,t3,t4,t5,t6,t7⟩:=cmdOk_tests (cmdOk_t6 a b c)
 have T1:=hid t1
 have T2:=hid t2
 have T3:=hid t3
 have T4:=hid t4
 have T5:=hid t5
 have T6:=hid t6
 have T7:=hid t7
 clear t1 t2 t3 t4 t5 t6 t7
 obtain⟨b0,b1,b2,b3,-,-,-,-⟩:=box4 H 0 rfl
 go_enter Tryz.func60,Tryz.ntmps60
 go_wp2_with fail
 have HX:=H.drew
 clear b0 b1 b2 b3
 obtain⟨b0,b1,b2,b3,-,-,-,-⟩:=box4 HX 0 rfl
 refine wp_region_tree (fun w'=>w'.cell? ⟨w.heap.size,0,none⟩=some (.int .i64 6)/\w'.cell? ⟨w.heap.size,1,none⟩=some (.int .i64 a)/\w'.cell? ⟨w.heap.size,2,none⟩=some (.int .i64 b)/\w'.cell? ⟨w.heap.size,3,none⟩=some (.int .i64 c)) 5 [] (.take 1 (.take 2 (.alt 0 (.take 3 (.alt 4 (.alt 5 (.done) (.stop)) (.stop))) (.alt 4 (.alt 0 (.take 3 (.alt 5 (.done) (.stop))) (.stop)) (.stop))))) (by kernel_rfl) (by kernel_rfl) (by kernel_rfl) (⟨b0,b1,b2,b3⟩) ?_
 simp only[fillT,lgz,Nat.reduceBEq]
 repeat first|(with_reducible apply po_take;(·(go_simp;done));(·(intro w' hS';(try dsimp only at hS');go_simp;try with_reducible rfl));simp only[lpa])|(with_reducible apply po_skip;(·(go_simp;done));simp only[lpa])
 with_reducible refine po_run ?_ (fun K hK=>?_) ?_
 ·(go_simp;done)
 ·
  go_simp
  refine (operations_any _).mono ?_
  rintro e w1 ⟨rfl,hb⟩
  replace HX:=HX.call hb
  clear hb b0 b1 b2 b3
  obtain⟨b0,b1,b2,b3,-,-,-,-⟩:=box4 HX 0 rfl
  refine hK.out _ _ (.inr (⟨b0,b1,b2,b3⟩)) ?_
  clear hK K
  repeat first|(with_reducible apply po_take;(·(go_simp;done));(·(intro w' hS';(try dsimp only at hS');go_simp;try with_reducible rfl));simp only[lpa])|(with_reducible apply po_skip;(·(go_simp;done));simp only[lpa])
  with_reducible refine po_last ?_ (fun K hK=>?_)
  ·(go_simp;done)
  go_simp
  replace HX:=HX.box [.int .i64 0,.int .i64 0,.nilFunc,.nilFunc] 125
  try simp only[drew_size,World.size_alloc]at HX
  clear b0 b1 b2 b3
  revert HX;generalize World.alloc _ _=wz;intro HX
  obtain⟨b0,b1,b2,b3,-,-,-,-⟩:=box4 HX 1 rfl
  refine hK.out _ _ (.inr (⟨b0,b1,b2,b3⟩)) ?_
  clear hK K
  with_reducible refine po_last ?_ (fun K hK=>?_)
  ·(go_simp;done)
  obtain⟨x0,x1,x2,x3,y0,y1,y2,y3⟩:=box4 HX 0 rfl
  go_simp
  clear x0 x1 x2 x3 y0 y1 y2 y3
  replace HX:=(((HX.putBox 0 rfl 0 (.int .i64 99)).putBox 0 rfl 1 (.int .i64 0)).putBox 0 rfl 2 (fnV 116)).putBox 0 rfl 3 (fnV 117)
  simp only[lsz]at HX
  clear b0 b1 b2 b3
  obtain⟨b0,b1,b2,b3,-,-,-,-⟩:=box4 HX 1 rfl
  refine hK.out _ _ (.inl rfl) ?_
  clear hK K
  clear b0 b1 b2 b3
  refine po_done ?_
  obtain⟨b0,b1,b2,b3,-,-,-,-⟩:=box4 HX 1 rfl
  obtain⟨x0,x1,x2,x3,-,-,-,-⟩:=box4 HX 0 rfl
  have HB:=HX.below
  clear HX
  by_cases h1:a<0
  ·have HV:=hid (T1.out h1)
   have q1:¬ 0<=a:=by omega
   go_wp2
   go_ret
   exact⟨ret_b HV.out.symm,HB⟩
  have q1:0<=a:=by omega
  by_cases h2:a<4
  rotate_left
  ·have HV:=hid (T2.out (by omega))
   go_wp2
   go_ret
   exact⟨ret_b HV.out.symm,HB⟩
  by_cases h3:b<0
  ·have HV:=hid (T3.out h3)
   have q2:¬ 0<=b:=by omega
   go_wp2
   go_ret
   exact⟨ret_b HV.out.symm,HB⟩
  have q2:0<=b:=by omega
  by_cases h4:99<b
  ·have HV:=hid (T4.out h4)
   have q3:¬ b<=99:=by omega
   go_wp2
   go_ret
   exact⟨ret_b HV.out.symm,HB⟩
  have q3:b<=99:=by omega
  by_cases h5:c<0
  ·have HV:=hid (T5.out h5)
   have q4:¬ 0<=c:=by omega
   go_wp2
   go_ret
   exact⟨ret_b HV.out.symm,HB⟩
  have q4:0<=c:=by omega
  by_cases h6:0<c
  ·have HV:=hid (T6.out h6)
   have q5:¬ c<=0:=by omega
   go_wp2
   go_ret
   exact⟨ret_b HV.out.symm,HB⟩
  have q5:c<=0:=by omega
  have HV:=hid (T7.out q1 h2 q2 q3 q4 q5)
  go_wp2
  go_ret
  exact⟨ret_b HV.out.symm,HB⟩
 with_reducible refine po_last ?_ (fun K hK=>?_)
 ·(go_simp;done)
 go_simp
 replace HX:=HX.box [.int .i64 0,.int .i64 0,.nilFunc,.nilFunc] 125
 try simp only[drew_size,World.size_alloc]at HX
 clear b0 b1 b2 b3
 obtain⟨b0,b1,b2,b3,-,-,-,-⟩:=box4 HX 1 rfl
 refine hK.out _ _ (.inr (⟨b0,b1,b2,b3⟩)) ?_
 clear hK K
 with_reducible refine po_last ?_ (fun K hK=>?_)
 ·(go_simp;done)
 go_simp
 refine (operations_any _).mono ?_
 rintro e w1 ⟨rfl,hb⟩
 replace HX:=HX.call hb
 clear hb b0 b1 b2 b3
 obtain⟨b0,b1,b2,b3,-,-,-,-⟩:=box4 HX 1 rfl
 refine hK.out _ _ (.inr (⟨b0,b1,b2,b3⟩)) ?_
 clear hK K
 repeat first|(with_reducible apply po_take;(·(go_simp;done));(·(intro w' hS';(try dsimp only at hS');go_simp;try with_reducible rfl));simp only[lpa])|(with_reducible apply po_skip;(·(go_simp;done));simp only[lpa])
 with_reducible refine po_last ?_ (fun K hK=>?_)
 ·(go_simp;done)
 obtain⟨x0,x1,x2,x3,y0,y1,y2,y3⟩:=box4 HX 0 rfl
 go_simp
 clear x0 x1 x2 x3 y0 y1 y2 y3
 replace HX:=(((HX.putBox 0 rfl 0 (.int .i64 99)).putBox 0 rfl 1 (.int .i64 0)).putBox 0 rfl 2 (fnV 116)).putBox 0 rfl 3 (fnV 117)
 simp only[lsz]at HX
 clear b0 b1 b2 b3
 obtain⟨b0,b1,b2,b3,-,-,-,-⟩:=box4 HX 1 rfl
 refine hK.out _ _ (.inl rfl) ?_
 clear hK K
 clear b0 b1 b2 b3
 refine po_done ?_
 obtain⟨b0,b1,b2,b3,-,-,-,-⟩:=box4 HX 1 rfl
 obtain⟨x0,x1,x2,x3,-,-,-,-⟩:=box4 HX 0 rfl
 have HB:=HX.below
 clear HX
 by_cases h1:a<0
 ·have HV:=hid (T1.out h1)
  have q1:¬ 0<=a:=by omega
  go_wp2
  go_ret
  exact⟨ret_b HV.out.symm,HB⟩
 have q1:0<=a:=by omega
 by_cases h2:a<4
 rotate_left
 ·have HV:=hid (T2.out (by omega))
  go_wp2
  go_ret
  exact⟨ret_b HV.out.symm,HB⟩
 by_cases h3:b<0
 ·have HV:=hid (T3.out h3)
  have q2:¬ 0<=b:=by omega
  go_wp2
  go_ret
  exact⟨ret_b HV.out.symm,HB⟩
 have q2:0<=b:=by omega
 by_cases h4:99<b
 ·have HV:=hid (T4.out h4)
  have q3:¬ b<=99:=by omega
  go_wp2
  go_ret
  exact⟨ret_b HV.out.symm,HB⟩
 have q3:b<=99:=by omega
 by_cases h5:c<0
 ·have HV:=hid (T5.out h5)
  have q4:¬ 0<=c:=by omega
  go_wp2
  go_ret
  exact⟨ret_b HV.out.symm,HB⟩
 have q4:0<=c:=by omega
 by_cases h6:0<c
 ·have HV:=hid (T6.out h6)
  have q5:¬ c<=0:=by omega
  go_wp2
  go_ret
  exact⟨ret_b HV.out.symm,HB⟩
 have q5:c<=0:=by omega
 have HV:=hid (T7.out q1 h2 q2 q3 q4 q5)
 go_wp2
 go_ret
 exact⟨ret_b HV.out.symm,HB⟩
theorem implCommandValid_any (o:Cmd) (w:World):Calls Tryz.prog 60 #[cmdV o] w fun e w'=>e=.returned (.bool (cmdOk o))/\Below w.heap.size w w':=by
 obtain⟨op,a,b,c⟩:=o
 by_cases h1:op=1
 ·subst h1;exact implCommandValid_1 a b c w
 by_cases h2:op=2
 ·subst h2;exact implCommandValid_2 a b c w
 by_cases h3:op=3
 ·subst h3;exact implCommandValid_3 a b c w
 by_cases h4:op=4
 ·subst h4;exact implCommandValid_4 a b c w
 by_cases h5:op=5
 ·subst h5;exact implCommandValid_5 a b c w
 by_cases h6:op=6
 ·subst h6;exact implCommandValid_6 a b c w
 have HV:=hid (cmdOk0 a b c ⟨h1,h2,h3,h4,h5,h6⟩)
 have H:=(Owns.nil w).box [.int .i64 op,.int .i64 a,.int .i64 b,.int .i64 c] 79
 have HB:=H.below
 obtain⟨b0,b1,b2,b3,-,-,-,-⟩:=box4 H 0 rfl
 clear H
 by_cases hlo:op<1
 ·go_enter Tryz.func60,Tryz.ntmps60
  go_wp2
  go_ret
  exact⟨ret_b HV.out.symm,HB⟩
 ·have hhi:6<op:=by omega
  go_enter Tryz.func60,Tryz.ntmps60
  go_wp2
  go_ret
  exact⟨ret_b HV.out.symm,HB⟩
theorem cellVals_setA:∀ (cs:List Cel) (rvs:List Value) (i:Nat) (c:Cel) (rv:Value),rvs.length=cs.length->i<cs.length →
  cellVals (cs.set i c) (rvs.set i rv)=(((cellVals cs rvs).set (i*3) (.bool c.used)).set (i*3+1) (.int .i64 c.data)).set (i*3+2) rv
 | [],_,_,_,_,_,h=>by simp at h
 | _::_,[],_,_,_,h,_=>by simp at h
 | c0::cs,rv0::rvs,0,_,_,_,_=>by simp[cellVals]
 | c0::cs,rv0::rvs,i+1,c,rv,hl,h=>by
  have:=cellVals_setA cs rvs i c rv (by simpa using hl) (by simpa using h)
  have e:(i+1)*3=i*3+3:=by omega
  rw[e,List.set_cons_succ,List.set_cons_succ,cellVals,this]
  simp[cellVals]
theorem Owns.absorb {lo:Nat}{w0 w w':World}{L:List OB}{X X' Y:OB}(h:Owns lo w0 w L) (i j:Nat) (_hij:i≠j) (hX:L[i]?=some X) (hY:L[j]?=some Y) (hT:Turn X.blks w w') (hnew:X'.holds lo w') (hblk:∀ q,X'.blks q->X.blks q\/Y.blks q\/w.heap.size<=q):
  Owns lo w0 w' ((L.set i X').eraseIdx j):=by
 have hXh:=h.holds i X hX
 have hle:=Nat.le_trans h.le hT.size
 have hi:i<L.length:=(List.getElem?_eq_some_iff.1 hX).1
 have hfree:∀ (a:Nat) (Z:OB),a≠i->L[a]?=some Z->∀ q,Z.blks q->¬ X.blks q:=fun a Z ha hZ q hq e=>h.apart a i Z _ ha hZ hX q hq e
 let f:Nat->Nat:=fun a=>if a<j then a else a+1
 have hget:∀ (a:Nat) (Z:OB),((L.set i X').eraseIdx j)[a]?=some Z->f a≠j/\((f a=i/\Z=X')\/(f a≠i/\L[f a]?=some Z)):=fun a Z hZ=>by
  have hZ':(L.set i X')[f a]?=some Z:=by
   rw[List.getElem?_eraseIdx]at hZ
   simp only[f]
   split at hZ <;> (rename_i hc;simp only[hc,if_true,if_false];exact hZ)
  refine⟨by simp only[f];split <;> omega,?_⟩
  rw[List.getElem?_set]at hZ'
  split at hZ'
  ·rename_i e
   (try rw[if_pos (by omega)]at hZ')
   injection hZ' with hZ'
   exact .inl ⟨e.symm,hZ'.symm⟩
  ·rename_i e
   exact .inr ⟨fun e'=>e e'.symm,hZ'⟩
 refine⟨h.below.trans ⟨hT.os,hT.tape,hT.output,hT.size,fun k hk=>hT.block k (by have:=h.le;omega) fun e=>by have:=(hXh.lt k e).1;omega⟩,hle,fun a Z hZ=>?_,fun a b Z T hab hZ hT' q hq=>?_⟩
 ·obtain⟨hne,⟨h1,rfl⟩|⟨h1,h2⟩⟩:=hget a Z hZ
  ·exact hnew
  ·exact (h.holds _ Z h2).keep (fun q hq=>hT.block q ((h.holds _ Z h2).lt q hq).2 (hfree _ Z h1 h2 q hq)) hT.size
 ·have hfab:f a≠f b:=fun e=>hab (by simp only[f]at e;split at e <;> split at e <;> omega)
  have key:∀ (a:Nat) (Z:OB),f a≠j->f a≠i->L[f a]?=some Z->∀ q,Z.blks q->¬ X'.blks q:=fun a Z h1 h2 h3 q hq hc=>by
   rcases hblk q hc with hc|hc|hc
   ·exact h.apart _ i Z _ h2 h3 hX q hq hc
   ·exact h.apart _ j Z _ h1 h3 hY q hq hc
   ·have:=((h.holds _ Z h3).lt q hq).2;omega
  obtain⟨hne,⟨h1,rfl⟩|⟨h1,h2⟩⟩:=hget a Z hZ <;> obtain⟨hne',⟨h3,rfl⟩|⟨h3,h4⟩⟩:=hget b T hT'
  ·omega
  ·exact fun ht=>key b T hne' h3 h4 q ht hq
  ·exact key a Z hne h1 h2 q hq
  ·exact h.apart _ _ Z T hfab h2 h4 q hq
theorem OwC.store {w:World}{lo hi:Nat}{rvs:List Value}{cs:List Cel}{g n cap:Nat}{i:Nat}{c:Cel}{rv:Value}(ho:OwC w lo hi (.slice (some ⟨g,0,none⟩) n cap) rvs cs) (hn:n=cs.length) (hi':i<cs.length) (hrv:OwI w lo hi rv c.refs) (hap:∀ x∈rvs,Apart rv x):
  OwC (((w.setCell ⟨g,i*3,none⟩ (.bool c.used)).setCell ⟨g,i*3+1,none⟩ (.int .i64 c.data)).setCell ⟨g,i*3+2,none⟩ rv) lo hi (.slice (some ⟨g,0,none⟩) n cap) (rvs.set i rv) (cs.set i c):=by
 subst hn
 obtain⟨s1,g1⟩:=ho.own.stored (i*3) (.bool c.used)
 obtain⟨s2,g2⟩:=s1.stored (i*3+1) (.int .i64 c.data)
 obtain⟨s3,g3⟩:=s2.stored (i*3+2) rv
 rw[<-cellVals_setA cs rvs i c rv ho.same hi']at s3
 have keep:∀ {q:Value} {xs:List Int},OwI w lo hi q xs->OwI (((w.setCell ⟨g,i*3,none⟩ (.bool c.used)).setCell ⟨g,i*3+1,none⟩ (.int .i64 c.data)).setCell ⟨g,i*3+2,none⟩ rv) lo hi q xs:=fun {q xs} hq =>
  hq.keep1 fun k hk=>by
   have hne:k≠g:=fun e=>own_ne hq.own ho.own (by decide) hk (by rw[e];rfl)
   rw[Below.heap_setCell _ _ _ k (by exact hne),Below.heap_setCell _ _ _ k (by exact hne),Below.heap_setCell _ _ _ k (by exact hne)]
 refine⟨by rw[List.length_set,List.length_set];exact ho.same,by rw[List.length_set];exact s3,ho.lt,fun i2 rv2 c' h1 h2=>?_,fun a b x y hab hx hy=>?_⟩
 ·by_cases e:i=i2
  ·subst e
   rw[List.getElem?_set_self (by rw[ho.same];exact hi')]at h1
   rw[List.getElem?_set_self hi']at h2
   injection h1 with h1;injection h2 with h2
   subst h1 h2
   exact keep hrv
  ·rw[List.getElem?_set_ne e]at h1 h2
   exact keep (ho.refs i2 rv2 c' h1 h2)
 ·by_cases ea:i=a
  ·subst ea
   rw[List.getElem?_set_self (by rw[ho.same];exact hi')]at hx
   injection hx with hx;subst hx
   rw[List.getElem?_set_ne hab]at hy
   exact hap y (List.mem_of_getElem? hy)
  ·rw[List.getElem?_set_ne ea]at hx
   by_cases eb:i=b
   ·subst eb
    rw[List.getElem?_set_self (by rw[ho.same];exact hi')]at hy
    injection hy with hy;subst hy
    exact apart_symm (hap x (List.mem_of_getElem? hx))
   ·rw[List.getElem?_set_ne eb]at hy
    exact ho.apart a b x y hab hx hy
theorem Owns.putCell {lo:Nat}{w0 w:World}{L:List OB}{rvs:List Value}{cs:List Cel}{g n cap:Nat}{c:Cel}{rv:Value}(h:Owns lo w0 w L) (i j:Nat) (hX:L[i]?=some (.cells (.slice (some ⟨g,0,none⟩) n cap) rvs cs)) (hY:L[j]?=some (.ints rv c.refs)) (hn:n=cs.length) (k:Nat) (hk:k<cs.length):
  Owns lo w0 (((w.setCell ⟨g,k*3,none⟩ (.bool c.used)).setCell ⟨g,k*3+1,none⟩ (.int .i64 c.data)).setCell ⟨g,k*3+2,none⟩ rv) ((L.set i (.cells (.slice (some ⟨g,0,none⟩) n cap) (rvs.set k rv) (cs.set k c))).eraseIdx j):=by
 have hij:i≠j:=by
  rintro rfl
  rw[hX]at hY;cases hY
 have ho:=h.owC i hX
 have hap:∀ x∈rvs,Apart rv x:=fun x hx=>by
  unfold Apart
  cases hrv:rv.ownBlock with
  | none=>exact .inl rfl
  | some q =>
   refine .inr fun e=>?_
   exact h.apart j i _ _ (Ne.symm hij) hY hX q hrv (.inr ⟨x,hx,e.symm⟩)
 have hT:Turn (CellBlocks (.slice (some ⟨g,0,none⟩) n cap) rvs) w (((w.setCell ⟨g,k*3,none⟩ (.bool c.used)).setCell ⟨g,k*3+1,none⟩ (.int .i64 c.data)).setCell ⟨g,k*3+2,none⟩ rv):=
  (((Turn.refl _ w).setCell _ (.inl rfl)).setCell _ (.inl rfl)).setCell _ (.inl rfl)
 refine h.absorb i j hij hX hY hT ?_ fun q hq=>?_
 ·have:=ho.store hn hk (h.owI j hY) hap
  show OwC _ lo _ _ _ _
  simpa only[World.size_setCell] using this
 ·rcases hq with e|⟨x,hx,e⟩
  ·exact .inl (.inl e)
  ·rcases List.mem_or_eq_of_mem_set hx with h1|rfl
   ·exact .inl (.inr ⟨x,h1,e⟩)
   ·exact .inr (.inl e)
set_option maxHeartbeats 3200000 in
set_option maxRecDepth 20000 in
theorem copyHeap_any (w:World) (B:Nat) (v:Value) (h:Hp) (hh:RdH w B v h) (hn:h.cells.length<=1048576) (hn2:h.roots.length<=1048576) (hn3:∀ c∈h.cells,c.refs.length<=1048576):
  Calls Tryz.prog 78 #[v] w (MadeH w h):=by
 obtain⟨D,m,d,D',m',d',rfl,hC,hR⟩:=hh.top
 have hm1:=hC.mx;have hcap1:=hC.cap
 have l3:=hC.le1;have l4:=hC.le2
 have l5:=RdI.le1 hR;have l6:=RdI.le2 hR
 unfold maxLen at hm1
 have H1:=((Owns.nil w).box [.slice D m d,.slice D' m' d'] 29).box [.slice none 0 0,.slice none 0 0] 29
 simp only[World.size_alloc]at H1
 go_enter Tryz.func78,Tryz.ntmps78
 go_wp2_with fail
 generalize (w.alloc (.cells #[.slice D m d,.slice D' m' d'] 29)).alloc (.cells #[.slice none 0 0,.slice none 0 0] 29)=w1 at *
 go_upto_region 1 with fail
 go_cut [3] (fun s3 wx=>∃ (g:Nat) (cv rv:Value),s3=.pointer (some ⟨g,0,none⟩)/\Owns w.heap.size w wx [.cells cv [] [],.box g [cv,rv] 29,.ints rv h.roots,.box (w.heap.size+1) [.slice none 0 0,.slice none 0 0] 29,.box w.heap.size [.slice D m d,.slice D' m' d'] 29])
 case first =>
  have HX:=H1.drew
  obtain⟨b0,b1,-,-⟩:=HX.box2 1 rfl
  refine wp_region_tree (fun w'=>w'.cell? ⟨w.heap.size,0,none⟩=some (.slice D m d)/\w'.cell? ⟨w.heap.size,1,none⟩=some (.slice D' m' d')) 10 [] (.take 0 (.take 1 (.take 2 (.take 3 (.take 5 (.take 6 (.alt 4 (.alt 7 (.take 8 (.alt 9 (.alt 10 (.done) (.stop)) (.stop))) (.alt 9 (.alt 7 (.take 8 (.alt 10 (.done) (.stop))) (.stop)) (.stop))) (.alt 7 (.alt 4 (.take 8 (.alt 9 (.alt 10 (.done) (.stop)) (.stop))) (.alt 9 (.alt 4 (.take 8 (.alt 10 (.done) (.stop))) (.stop)) (.stop))) (.alt 9 (.alt 4 (.alt 7 (.take 8 (.alt 10 (.done) (.stop))) (.stop)) (.alt 7 (.alt 4 (.take 8 (.alt 10 (.done) (.stop))) (.stop)) (.stop))) (.stop)))))))))) (by kernel_rfl) (by kernel_rfl) (by kernel_rfl) (⟨b0,b1⟩) ?_
  simp only[fillT,lgz,Nat.reduceBEq]
  repeat first|(with_reducible apply po_take;(·(go_simp;done));(·(intro w' hS';(try dsimp only at hS');go_simp;try with_reducible rfl));simp only[lpa])|(with_reducible apply po_skip;(·(go_simp;done));simp only[lpa])
  with_reducible refine po_run ?_ (fun K hK=>?_) ?_
  ·(go_simp;done)
  ·
   go_simp
   refine upon_makeC HX .i64 .i64 _ (m+1) (by rw[IntKind.wrap_i64];omega) (by omega) ?_
   intro q4 w2 HX hb
   replace b0:=keept b0 hb
   replace b1:=keept b1 hb
   refine hK.out _ _ (.inr (⟨b0,b1⟩)) ?_
   clear hK K
   with_reducible refine po_run ?_ (fun K hK=>?_) ?_
   ·(go_simp;done)
   ·
    go_simp
    refine (clone_any _ _ _ _ _ h.roots (hR.below HX.below) (by omega)).mono ?_
    rintro e w3 ⟨v3,rfl,ho,hb⟩
    obtain⟨A3,k3,rfl,-⟩:=ho.form
    replace HX:=HX.madeI ho hb
    replace b0:=keept b0 hb
    replace b1:=keept b1 hb
    refine hK.out _ _ (.inr (⟨b0,b1⟩)) ?_
    clear hK K
    repeat first|(with_reducible apply po_take;(·(go_simp;done));(·(intro w' hS';(try dsimp only at hS');go_simp;try with_reducible rfl));simp only[lpa])|(with_reducible apply po_skip;(·(go_simp;done));simp only[lpa])
    with_reducible refine po_last ?_ (fun K hK=>?_)
    ·(go_simp;done)
    go_simp
    have HY:=HX
    replace HX:=HX.box [.slice none 0 0,.slice none 0 0] 29
    try simp only[drew_size]at HX
    replace b0:=keept b0 (below_alloc _ (.cells #[.slice none 0 0,.slice none 0 0] 29))
    replace b1:=keept b1 (below_alloc _ (.cells #[.slice none 0 0,.slice none 0 0] 29))
    refine hK.out _ _ (.inr (⟨b0,b1⟩)) ?_
    clear hK K
    with_reducible refine po_last ?_ (fun K hK=>?_)
    ·(go_simp;done)
    have HYb:=HY.box [.slice (some ⟨q4,0,none⟩) 0 (m+1),.slice A3 h.roots.length k3] 29
    have HZ:=HYb.places [0,2,1,3,4] (by decide) (by simp);simp only[lfm]at HZ
    replace HZ:=HZ.swap
    go_simp
    refine hK.out _ _ (.inl rfl) ?_
    clear hK K
    refine po_done ?_
    go_wp2_with fail
    go_meet
    exact⟨_,_,_,rfl,HZ⟩
   with_reducible refine po_last ?_ (fun K hK=>?_)
   ·(go_simp;done)
   go_simp
   have HY:=HX
   replace HX:=HX.box [.slice none 0 0,.slice none 0 0] 29
   try simp only[drew_size]at HX
   replace b0:=keept b0 (below_alloc _ (.cells #[.slice none 0 0,.slice none 0 0] 29))
   replace b1:=keept b1 (below_alloc _ (.cells #[.slice none 0 0,.slice none 0 0] 29))
   refine hK.out _ _ (.inr (⟨b0,b1⟩)) ?_
   clear hK K
   with_reducible refine po_last ?_ (fun K hK=>?_)
   ·(go_simp;done)
   go_simp
   refine (clone_any _ _ _ _ _ h.roots (hR.below HX.below) (by omega)).mono ?_
   rintro e w3 ⟨v3,rfl,ho,hb⟩
   obtain⟨A3,k3,rfl,-⟩:=ho.form
   replace HX:=HX.madeI ho hb
   replace b0:=keept b0 hb
   replace b1:=keept b1 hb
   refine hK.out _ _ (.inr (⟨b0,b1⟩)) ?_
   clear hK K
   repeat first|(with_reducible apply po_take;(·(go_simp;done));(·(intro w' hS';(try dsimp only at hS');go_simp;try with_reducible rfl));simp only[lpa])|(with_reducible apply po_skip;(·(go_simp;done));simp only[lpa])
   with_reducible refine po_last ?_ (fun K hK=>?_)
   ·(go_simp;done)
   have HZ:=HX.places [1,2,0,3,4] (by decide) (by simp);simp only[lfm]at HZ
   obtain⟨x0,x1,xf,yf⟩:=HZ.box2 0 rfl
   replace HZ:=(HZ.putBox 0 rfl 0 (.slice (some ⟨q4,0,none⟩) 0 (m+1))).putBox 0 rfl 1 (.slice A3 h.roots.length k3)
   replace HZ:=HZ.swap
   go_simp
   refine hK.out _ _ (.inl rfl) ?_
   clear hK K
   refine po_done ?_
   go_wp2_with fail
   go_meet
   exact⟨_,_,_,rfl,HZ⟩
  with_reducible refine po_run ?_ (fun K hK=>?_) ?_
  ·(go_simp;done)
  ·
   go_simp
   refine (clone_any _ _ _ _ _ h.roots (hR.below HX.below) (by omega)).mono ?_
   rintro e w3 ⟨v3,rfl,ho,hb⟩
   obtain⟨A3,k3,rfl,-⟩:=ho.form
   replace HX:=HX.madeI ho hb
   replace b0:=keept b0 hb
   replace b1:=keept b1 hb
   refine hK.out _ _ (.inr (⟨b0,b1⟩)) ?_
   clear hK K
   with_reducible refine po_run ?_ (fun K hK=>?_) ?_
   ·(go_simp;done)
   ·
    go_simp
    refine upon_makeC HX .i64 .i64 _ (m+1) (by rw[IntKind.wrap_i64];omega) (by omega) ?_
    intro q4 w2 HX hb
    replace b0:=keept b0 hb
    replace b1:=keept b1 hb
    refine hK.out _ _ (.inr (⟨b0,b1⟩)) ?_
    clear hK K
    repeat first|(with_reducible apply po_take;(·(go_simp;done));(·(intro w' hS';(try dsimp only at hS');go_simp;try with_reducible rfl));simp only[lpa])|(with_reducible apply po_skip;(·(go_simp;done));simp only[lpa])
    with_reducible refine po_last ?_ (fun K hK=>?_)
    ·(go_simp;done)
    go_simp
    have HY:=HX
    replace HX:=HX.box [.slice none 0 0,.slice none 0 0] 29
    try simp only[drew_size]at HX
    replace b0:=keept b0 (below_alloc _ (.cells #[.slice none 0 0,.slice none 0 0] 29))
    replace b1:=keept b1 (below_alloc _ (.cells #[.slice none 0 0,.slice none 0 0] 29))
    refine hK.out _ _ (.inr (⟨b0,b1⟩)) ?_
    clear hK K
    with_reducible refine po_last ?_ (fun K hK=>?_)
    ·(go_simp;done)
    have HYb:=HY.box [.slice (some ⟨q4,0,none⟩) 0 (m+1),.slice A3 h.roots.length k3] 29
    have HZ:=HYb.places [0,1,2,3,4] (by decide) (by simp);simp only[lfm]at HZ
    replace HZ:=HZ.swap
    go_simp
    refine hK.out _ _ (.inl rfl) ?_
    clear hK K
    refine po_done ?_
    go_wp2_with fail
    go_meet
    exact⟨_,_,_,rfl,HZ⟩
   with_reducible refine po_last ?_ (fun K hK=>?_)
   ·(go_simp;done)
   go_simp
   have HY:=HX
   replace HX:=HX.box [.slice none 0 0,.slice none 0 0] 29
   try simp only[drew_size]at HX
   replace b0:=keept b0 (below_alloc _ (.cells #[.slice none 0 0,.slice none 0 0] 29))
   replace b1:=keept b1 (below_alloc _ (.cells #[.slice none 0 0,.slice none 0 0] 29))
   refine hK.out _ _ (.inr (⟨b0,b1⟩)) ?_
   clear hK K
   with_reducible refine po_last ?_ (fun K hK=>?_)
   ·(go_simp;done)
   go_simp
   refine upon_makeC HX .i64 .i64 _ (m+1) (by rw[IntKind.wrap_i64];omega) (by omega) ?_
   intro q4 w2 HX hb
   replace b0:=keept b0 hb
   replace b1:=keept b1 hb
   refine hK.out _ _ (.inr (⟨b0,b1⟩)) ?_
   clear hK K
   repeat first|(with_reducible apply po_take;(·(go_simp;done));(·(intro w' hS';(try dsimp only at hS');go_simp;try with_reducible rfl));simp only[lpa])|(with_reducible apply po_skip;(·(go_simp;done));simp only[lpa])
   with_reducible refine po_last ?_ (fun K hK=>?_)
   ·(go_simp;done)
   have HZ:=HX.places [1,0,2,3,4] (by decide) (by simp);simp only[lfm]at HZ
   obtain⟨x0,x1,xf,yf⟩:=HZ.box2 0 rfl
   replace HZ:=(HZ.putBox 0 rfl 0 (.slice (some ⟨q4,0,none⟩) 0 (m+1))).putBox 0 rfl 1 (.slice A3 h.roots.length k3)
   replace HZ:=HZ.swap
   go_simp
   refine hK.out _ _ (.inl rfl) ?_
   clear hK K
   refine po_done ?_
   go_wp2_with fail
   go_meet
   exact⟨_,_,_,rfl,HZ⟩
  with_reducible refine po_last ?_ (fun K hK=>?_)
  ·(go_simp;done)
  go_simp
  have HY:=HX
  replace HX:=HX.box [.slice none 0 0,.slice none 0 0] 29
  try simp only[drew_size]at HX
  replace b0:=keept b0 (below_alloc _ (.cells #[.slice none 0 0,.slice none 0 0] 29))
  replace b1:=keept b1 (below_alloc _ (.cells #[.slice none 0 0,.slice none 0 0] 29))
  refine hK.out _ _ (.inr (⟨b0,b1⟩)) ?_
  clear hK K
  with_reducible refine po_run ?_ (fun K hK=>?_) ?_
  ·(go_simp;done)
  ·
   go_simp
   refine upon_makeC HX .i64 .i64 _ (m+1) (by rw[IntKind.wrap_i64];omega) (by omega) ?_
   intro q4 w2 HX hb
   replace b0:=keept b0 hb
   replace b1:=keept b1 hb
   refine hK.out _ _ (.inr (⟨b0,b1⟩)) ?_
   clear hK K
   with_reducible refine po_last ?_ (fun K hK=>?_)
   ·(go_simp;done)
   go_simp
   refine (clone_any _ _ _ _ _ h.roots (hR.below HX.below) (by omega)).mono ?_
   rintro e w3 ⟨v3,rfl,ho,hb⟩
   obtain⟨A3,k3,rfl,-⟩:=ho.form
   replace HX:=HX.madeI ho hb
   replace b0:=keept b0 hb
   replace b1:=keept b1 hb
   refine hK.out _ _ (.inr (⟨b0,b1⟩)) ?_
   clear hK K
   repeat first|(with_reducible apply po_take;(·(go_simp;done));(·(intro w' hS';(try dsimp only at hS');go_simp;try with_reducible rfl));simp only[lpa])|(with_reducible apply po_skip;(·(go_simp;done));simp only[lpa])
   with_reducible refine po_last ?_ (fun K hK=>?_)
   ·(go_simp;done)
   have HZ:=HX.places [2,1,0,3,4] (by decide) (by simp);simp only[lfm]at HZ
   obtain⟨x0,x1,xf,yf⟩:=HZ.box2 0 rfl
   replace HZ:=(HZ.putBox 0 rfl 0 (.slice (some ⟨q4,0,none⟩) 0 (m+1))).putBox 0 rfl 1 (.slice A3 h.roots.length k3)
   replace HZ:=HZ.swap
   go_simp
   refine hK.out _ _ (.inl rfl) ?_
   clear hK K
   refine po_done ?_
   go_wp2_with fail
   go_meet
   exact⟨_,_,_,rfl,HZ⟩
  with_reducible refine po_last ?_ (fun K hK=>?_)
  ·(go_simp;done)
  go_simp
  refine (clone_any _ _ _ _ _ h.roots (hR.below HX.below) (by omega)).mono ?_
  rintro e w3 ⟨v3,rfl,ho,hb⟩
  obtain⟨A3,k3,rfl,-⟩:=ho.form
  replace HX:=HX.madeI ho hb
  replace b0:=keept b0 hb
  replace b1:=keept b1 hb
  refine hK.out _ _ (.inr (⟨b0,b1⟩)) ?_
  clear hK K
  with_reducible refine po_last ?_ (fun K hK=>?_)
  ·(go_simp;done)
  go_simp
  refine upon_makeC HX .i64 .i64 _ (m+1) (by rw[IntKind.wrap_i64];omega) (by omega) ?_
  intro q4 w2 HX hb
  replace b0:=keept b0 hb
  replace b1:=keept b1 hb
  refine hK.out _ _ (.inr (⟨b0,b1⟩)) ?_
  clear hK K
  repeat first|(with_reducible apply po_take;(·(go_simp;done));(·(intro w' hS';(try dsimp only at hS');go_simp;try with_reducible rfl));simp only[lpa])|(with_reducible apply po_skip;(·(go_simp;done));simp only[lpa])
  with_reducible refine po_last ?_ (fun K hK=>?_)
  ·(go_simp;done)
  have HZ:=HX.places [2,0,1,3,4] (by decide) (by simp);simp only[lfm]at HZ
  obtain⟨x0,x1,xf,yf⟩:=HZ.box2 0 rfl
  replace HZ:=(HZ.putBox 0 rfl 0 (.slice (some ⟨q4,0,none⟩) 0 (m+1))).putBox 0 rfl 1 (.slice A3 h.roots.length k3)
  replace HZ:=HZ.swap
  go_simp
  refine hK.out _ _ (.inl rfl) ?_
  clear hK K
  refine po_done ?_
  go_wp2_with fail
  go_meet
  exact⟨_,_,_,rfl,HZ⟩
 case rest =>
  obtain⟨bx,cv0,rv,rfl,H0⟩:=hcut
  obtain⟨A3,k3,rfl,-⟩:=H0.formI 2 rfl
  obtain⟨a0,a1,-,-⟩:=H0.box2 4 rfl
  clear H1
  go_wp2_with fail
  go_loopw [18] (fun i wr=>∃ (k:Nat) (cv:Value) (rvs:List Value),i=.int .i64 k/\k<=m/\Owns w.heap.size w wr [.cells cv rvs (h.cells.take k),.box bx [cv,.slice A3 h.roots.length k3] 29,.ints (.slice A3 h.roots.length k3) h.roots,.box (w.heap.size+1) [.slice none 0 0,.slice none 0 0] 29,.box w.heap.size [.slice D m d,.slice D' m' d'] 29]) (fun i _=>m - (intOf i).toNat)
  case atStart=>exact⟨0,_,_,rfl,Nat.zero_le _,H0⟩
  case round =>
   clear H0 a0 a1
   obtain⟨k,cv,rvs,rfl,hk,H⟩:=hrel
   by_cases hlt:k<m
   ·obtain⟨b,o,l,A2,n2,c2,rfl,hbb,hx,q1,q2,q3,hrf⟩:=hC.at_ hlt
    have g1:=H.ro q1 hbb
    have g2:=H.ro q2 hbb
    have g3:=H.ro q3 hbb
    have HX:=(H.box [.bool l.used,.int .i64 l.data,.slice A2 n2 c2] 68).drew
    obtain⟨x0,x1,xf,-⟩:=HX.box2 2 rfl
    obtain⟨y0,y1,y2,-,-,-⟩:=HX.box3 0 rfl
    have hb3:=hn3 l (List.mem_of_getElem? hx.out)
    have r1:=RdI.le1 hrf;have r2:=RdI.le2 hrf
    clear q1 q2 q3
    go_wp2_with fail
    refine wp_region_tree (fun w'=>w'.cell? ⟨bx,0,none⟩=some cv/\w'.cell? ⟨wr.heap.size,0,none⟩=some (.bool l.used)/\w'.cell? ⟨wr.heap.size,1,none⟩=some (.int .i64 l.data)/\w'.cell? ⟨wr.heap.size,2,none⟩=some (.slice A2 n2 c2)) 13 [] (.take 0 (.take 1 (.take 2 (.take 3 (.take 4 (.take 5 (.take 6 (.take 7 (.alt 8 (.take 9 (.alt 10 (.alt 11 (.take 12 (.alt 13 (.done) (.stop))) (.stop)) (.stop))) (.stop)))))))))) (by kernel_rfl) (by kernel_rfl) (by kernel_rfl) (⟨x0,y0,y1,y2⟩) ?_
    simp only[fillT,lgz,Nat.reduceBEq]
    repeat first|(with_reducible apply po_take;(·(go_simp;done));(·(intro w' hS';(try dsimp only at hS');go_simp;try with_reducible rfl));simp only[lpa])|(with_reducible apply po_skip;(·(go_simp;done));simp only[lpa])
    with_reducible refine po_last ?_ (fun K hK=>?_)
    ·(go_simp;done)
    go_simp
    refine (clone_any _ _ _ _ _ l.refs (hrf.below HX.below) (by omega)).mono ?_
    rintro e w3 ⟨v3,rfl,ho,hb⟩
    obtain⟨A4,k4,rfl,-⟩:=ho.form
    replace HX:=HX.madeI ho hb
    refine hK.out _ _ (.inr (⟨keept x0 hb,keept y0 hb,keept y1 hb,keept y2 hb⟩)) ?_
    clear hK K
    replace x0:=keept x0 hb
    replace y0:=keept y0 hb
    replace y1:=keept y1 hb
    replace y2:=keept y2 hb
    repeat first|(with_reducible apply po_take;(·(go_simp;done));(·(intro w' hS';(try dsimp only at hS');go_simp;try with_reducible rfl));simp only[lpa])|(with_reducible apply po_skip;(·(go_simp;done));simp only[lpa])
    with_reducible refine po_last ?_ (fun K hK=>?_)
    ·(go_simp;done)
    go_simp
    replace HX:=HX.box [.bool l.used,.int .i64 l.data,.slice A4 l.refs.length k4] 68
    have hb:=below_alloc w3 (.cells #[.bool l.used,.int .i64 l.data,.slice A4 l.refs.length k4] 68)
    refine hK.out _ _ (.inr (⟨keept x0 hb,keept y0 hb,keept y1 hb,keept y2 hb⟩)) ?_
    clear hK K
    with_reducible refine po_last ?_ (fun K hK=>?_)
    ·(go_simp;done)
    refine wp_pushCO (.tmp 23) (.tmp 32) rfl HX 3 1 rfl rfl rfl rfl rfl (HX.holds 0 _ rfl).2 (by simp;omega) ?_
    intro A5 e5 w5 HZ
    simp only[lsz,List.eraseIdx_cons_succ,List.eraseIdx_cons_zero]at HZ
    have hT:h.cells.take k++[l]=h.cells.take (k+1):=(take_snoc' hx).symm
    have hL:(h.cells.take (k+1)).length=k+1:=by simp;omega
    rw[hT,hL]at HZ
    rw[hT,hL]
    clear hT hL
    obtain⟨z0,z1,zf,-⟩:=HZ.box2 3 rfl
    obtain⟨y0,y1,y2,-,-,-⟩:=HZ.box3 1 rfl
    refine hK.out _ _ (.inr (⟨z0,y0,y1,y2⟩)) ?_
    clear hK K
    repeat first|(with_reducible apply po_take;(·(go_simp;done));(·(intro w' hS';(try dsimp only at hS');go_simp;try with_reducible rfl));simp only[lpa])|(with_reducible apply po_skip;(·(go_simp;done));simp only[lpa])
    with_reducible refine po_last ?_ (fun K hK=>?_)
    ·(go_simp;done)
    replace HZ:=(HZ.putBox 3 rfl 0 (.slice A5 (k+1) e5)).drop 2
    simp only[lsz,List.drop_succ_cons,List.drop_zero]at HZ
    have HS:=hid HZ
    clear HZ HX H
    go_simp
    refine hK.out _ _ (.inl rfl) ?_
    clear hK K
    refine po_done ?_
    clear x0 x1 xf y0 y1 y2 z0 z1 zf g1 g2 g3
    go_wp2
    go_roundw
    case rel=>exact⟨k+1,_,_,by go_num,by omega,HS.out⟩
    case measure=>simp[intOf];omega
   ·rw[List.take_of_length_le (by omega)]at H
    obtain⟨C1,e1,rfl,-⟩:=H.formC 0 rfl
    obtain⟨x0,x1,-,-⟩:=H.box2 1 rfl
    obtain⟨y0,y1,y2,y3⟩:=H.box2 3 rfl
    have R:=(H.putBox 3 rfl 0 (.slice C1 h.cells.length e1)).putBox 3 rfl 1 (.slice A3 h.roots.length k3)
    have HR:=hid R
    clear R H
    go_wp2
    exact bodyPost_ret (v:=.agg #[.slice C1 h.cells.length e1,.slice A3 h.roots.length k3]) (by simp[results,Tryz.results78,go_sem,y0,y1]) rfl (HR.out.toH 0 2 rfl rfl)
set_option maxHeartbeats 6400000 in
set_option maxRecDepth 20000 in
theorem execute_any (w:World) (B:Nat) (v:Value) (h:Hp) (hh:RdH w B v h) (o:Cmd) (g:Good h) (hc:cmdOk o=true) (hp:possB h o=true) (pc:Nat) (hpc:pc<=h.cells.length):
  Calls Tryz.prog 79 #[v,cmdV o,.int .i64 (pc:Int)] w (MadeHp w (mDo h o pc)):=by
 have hh':=hh.top
 obtain⟨D,m,d,D',m',d',rfl,hC,hR⟩:=hh.top
 have hl40:=g.len
 have h4:=g.roots
 have hn3:∀ c∈h.cells,c.refs.length<=1048576:=fun c hm=>by
  have:=g.cell c hm
  rw[cellOk_iff]at this
  rcases this with k|k
  ·omega
  ·rw[k.2.2];simp
 have hca:=cmd_a hc
 have hcb:=cmd_b hc
 have hcc:=cmd_c hc
 obtain⟨op,a,b,c⟩:=o
 simp only at hca hcb hcc
 have H:=(((Owns.nil w).box [.slice D m d,.slice D' m' d'] 29).box [.int .i64 op,.int .i64 a,.int .i64 b,.int .i64 c] 79).box [.slice none 0 0,.slice none 0 0] 29
 simp only[lnm]at H
 obtain⟨a0,a1,-,-⟩:=H.box2 2 rfl
 have HN3:=hid hn3
 have HCB:=hid hcb
 have HCC:=hid hcc
 have H4:=hid h4
 have GG:=hid g
 have hr4:4<=h.roots.length:=by omega
 have hr4':h.roots.length<=4:=by omega
 clear hn3 hcb hcc h4 g
 obtain⟨an,rfl⟩:=Int.eq_ofNat_of_zero_le hca.1
 have han:an<h.roots.length:=by omega
 obtain⟨xo,hxo⟩:∃ x,Hid (h.roots[an]?=some x):=⟨_,hid (List.getElem?_eq_getElem han)⟩
 have HC':=hid hc
 have HP:=hid hp
 clear hc hp
 go_enter Tryz.func79,Tryz.ntmps79
 go_wp2_with fail
 refine (copyHeap_any _ _ _ h (hh'.below H.below) (by omega) (by omega) HN3.out).mono ?_
 rintro e w1 ⟨v1,rfl,ho,hb⟩
 obtain⟨cv,rvs,rv,rfl,H1⟩:=H.madeH ho hb
 obtain⟨C,kC,rfl,-⟩:=H1.formC 0 rfl
 obtain⟨gR,kR,eR,-,-,-,-⟩:=H1.rowAt 1 rfl (show 0<h.roots.length by omega)
 obtain rfl:=eR
 clear H ho hb a0 a1
 have H2:=H1.box [.slice C h.cells.length kC,.slice (some ⟨gR,0,none⟩) h.roots.length kR] 29
 clear H1
 clear hh hh' hC hR
 by_cases h4:op=4
 ·subst h4
  obtain⟨bn,rfl⟩:=Int.eq_ofNat_of_zero_le (HCB.out (.inr (.inr rfl))).1
  have hbn:(bn:Int)<=3:=(HCB.out (.inr (.inr rfl))).2
  obtain⟨x,hx⟩:∃ x,Hid (h.roots[bn]?=some x):=⟨_,hid (List.getElem?_eq_getElem (by omega))⟩
  have HF:Hid (mDo h ⟨4,an,bn,c⟩ pc=⟨h.cells,h.roots.set an x⟩):=hid (by simp[mDo,rootI_of hx])
  have hI:=opsAt_4
  have hQ:=opsR_4
  have k3:((4:Int) != 1)=true:=by decide
  obtain⟨b0,b1,b2,b3,-,-,-,-⟩:=box4 H2 4 rfl
  go_wp2_with fail
  have HX:=H2.drew
  clear H2 b0 b1 b2 b3
  obtain⟨b0,b1,b2,b3,-,-,-,-⟩:=box4 HX 4 rfl
  refine wp_region_tree (fun w'=>w'.cell? ⟨w.heap.size+1,0,none⟩=some (.int .i64 4)/\w'.cell? ⟨w.heap.size+1,1,none⟩=some (.int .i64 an)/\w'.cell? ⟨w.heap.size+1,2,none⟩=some (.int .i64 bn)/\w'.cell? ⟨w.heap.size+1,3,none⟩=some (.int .i64 c)) 6 [] (.take 1 (.take 2 (.take 5 (.alt 0 (.take 3 (.take 4 (.alt 6 (.done) (.stop)))) (.stop))))) (by kernel_rfl) (by kernel_rfl) (by kernel_rfl) (⟨b0,b1,b2,b3⟩) ?_
  simp only[fillT,lgz,Nat.reduceBEq]
  repeat first|(with_reducible apply po_take;(·(go_simp;done));(·(intro w' hS';(try dsimp only at hS');go_simp;try with_reducible rfl));simp only[lpa])|(with_reducible apply po_skip;(·(go_simp;done));simp only[lpa])
  with_reducible refine po_last ?_ (fun K hK=>?_)
  ·(go_simp;done)
  go_simp
  refine (operations_any _).mono ?_
  rintro e w3 ⟨rfl,hb⟩
  replace HX:=HX.call hb
  clear hb b0 b1 b2 b3
  obtain⟨b0,b1,b2,b3,-,-,-,-⟩:=box4 HX 4 rfl
  refine hK.out _ _ (.inr (⟨b0,b1,b2,b3⟩)) ?_
  clear hK K
  repeat first|(with_reducible apply po_take;(·(go_simp;done));(·(intro w' hS';(try dsimp only at hS');go_simp;try with_reducible rfl));simp only[lpa])|(with_reducible apply po_skip;(·(go_simp;done));simp only[lpa])
  with_reducible refine po_last ?_ (fun K hK=>?_)
  ·(go_simp;done)
  go_simp
  refine (runCopy_own HX rfl 4 c an bn xo x hxo hx).mono ?_
  rintro e w4 ⟨⟨u,rfl⟩,HY⟩
  clear HX b0 b1 b2 b3
  have HX:=HY
  clear HY
  obtain⟨b0,b1,b2,b3,-,-,-,-⟩:=box4 HX 4 rfl
  refine hK.out _ _ (.inr (⟨b0,b1,b2,b3⟩)) ?_
  clear hK K
  refine po_done ?_
  clear b0 b1 b2 b3
  obtain⟨x0,x1,xf0,xf1⟩:=HX.box2 0 rfl
  obtain⟨y0,y1,y2,y3⟩:=HX.box2 3 rfl
  have HZ:=(HX.putBox 3 rfl 0 (.slice C h.cells.length kC)).putBox 3 rfl 1 (.slice (some ⟨gR,0,none⟩) h.roots.length kR)
  simp only[lnm]at HZ
  obtain⟨z0,z1,-,-⟩:=HZ.box2 3 rfl
  obtain⟨z2,-,-,-⟩:=(HX.putBox 3 rfl 0 (.slice C h.cells.length kC)).box2 3 rfl
  have HS:Hid (MadeHp w (mDo h ⟨4,an,bn,c⟩ pc) (.returned (.agg #[.slice C h.cells.length kC,.slice (some ⟨gR,0,none⟩) h.roots.length kR])) _):=hid (by rw[HF.out];exact⟨_,_,_,rfl,HZ.order [1,2] (by decide) rfl⟩)
  clear HX HZ
  go_wp2
  exact bodyPost_ret (by simp[results,Tryz.results79,go_sem,z0,z1,z2]) rfl HS.out
 by_cases h5:op=5
 ·subst h5
  have HF:Hid (mDo h ⟨5,an,b,c⟩ pc=⟨h.cells,h.roots.set an (-1)⟩):=hid (by simp[mDo])
  have hI:=opsAt_5
  have hQ:=opsR_5
  have k3:((5:Int) != 1)=true:=by decide
  obtain⟨b0,b1,b2,b3,-,-,-,-⟩:=box4 H2 4 rfl
  go_wp2_with fail
  have HX:=H2.drew
  clear H2 b0 b1 b2 b3
  obtain⟨b0,b1,b2,b3,-,-,-,-⟩:=box4 HX 4 rfl
  refine wp_region_tree (fun w'=>w'.cell? ⟨w.heap.size+1,0,none⟩=some (.int .i64 5)/\w'.cell? ⟨w.heap.size+1,1,none⟩=some (.int .i64 an)/\w'.cell? ⟨w.heap.size+1,2,none⟩=some (.int .i64 b)/\w'.cell? ⟨w.heap.size+1,3,none⟩=some (.int .i64 c)) 6 [] (.take 1 (.take 2 (.take 5 (.alt 0 (.take 3 (.take 4 (.alt 6 (.done) (.stop)))) (.stop))))) (by kernel_rfl) (by kernel_rfl) (by kernel_rfl) (⟨b0,b1,b2,b3⟩) ?_
  simp only[fillT,lgz,Nat.reduceBEq]
  repeat first|(with_reducible apply po_take;(·(go_simp;done));(·(intro w' hS';(try dsimp only at hS');go_simp;try with_reducible rfl));simp only[lpa])|(with_reducible apply po_skip;(·(go_simp;done));simp only[lpa])
  with_reducible refine po_last ?_ (fun K hK=>?_)
  ·(go_simp;done)
  go_simp
  refine (operations_any _).mono ?_
  rintro e w3 ⟨rfl,hb⟩
  replace HX:=HX.call hb
  clear hb b0 b1 b2 b3
  obtain⟨b0,b1,b2,b3,-,-,-,-⟩:=box4 HX 4 rfl
  refine hK.out _ _ (.inr (⟨b0,b1,b2,b3⟩)) ?_
  clear hK K
  repeat first|(with_reducible apply po_take;(·(go_simp;done));(·(intro w' hS';(try dsimp only at hS');go_simp;try with_reducible rfl));simp only[lpa])|(with_reducible apply po_skip;(·(go_simp;done));simp only[lpa])
  with_reducible refine po_last ?_ (fun K hK=>?_)
  ·(go_simp;done)
  go_simp
  refine (runDrop_own HX rfl 5 b c an xo hxo).mono ?_
  rintro e w4 ⟨⟨u,rfl⟩,HY⟩
  clear HX b0 b1 b2 b3
  have HX:=HY
  clear HY
  obtain⟨b0,b1,b2,b3,-,-,-,-⟩:=box4 HX 4 rfl
  refine hK.out _ _ (.inr (⟨b0,b1,b2,b3⟩)) ?_
  clear hK K
  refine po_done ?_
  clear b0 b1 b2 b3
  obtain⟨x0,x1,xf0,xf1⟩:=HX.box2 0 rfl
  obtain⟨y0,y1,y2,y3⟩:=HX.box2 3 rfl
  have HZ:=(HX.putBox 3 rfl 0 (.slice C h.cells.length kC)).putBox 3 rfl 1 (.slice (some ⟨gR,0,none⟩) h.roots.length kR)
  simp only[lnm]at HZ
  obtain⟨z0,z1,-,-⟩:=HZ.box2 3 rfl
  obtain⟨z2,-,-,-⟩:=(HX.putBox 3 rfl 0 (.slice C h.cells.length kC)).box2 3 rfl
  have HS:Hid (MadeHp w (mDo h ⟨5,an,b,c⟩ pc) (.returned (.agg #[.slice C h.cells.length kC,.slice (some ⟨gR,0,none⟩) h.roots.length kR])) _):=hid (by rw[HF.out];exact⟨_,_,_,rfl,HZ.order [1,2] (by decide) rfl⟩)
  clear HX HZ
  go_wp2
  exact bodyPost_ret (by simp[results,Tryz.results79,go_sem,z0,z1,z2]) rfl HS.out
 by_cases h2:op=2
 ·subst h2
  obtain⟨bn,rfl⟩:=Int.eq_ofNat_of_zero_le (HCB.out (.inl rfl)).1
  obtain⟨cn,rfl⟩:=Int.eq_ofNat_of_zero_le (HCC.out (.inl rfl)).1
  have hbn:(bn:Int)<=3:=(HCB.out (.inl rfl)).2
  obtain⟨x,hx⟩:∃ x,Hid (h.roots[bn]?=some x):=⟨_,hid (List.getElem?_eq_getElem (by omega))⟩
  have hpl:placeB h x cn=true:=by
   have:=HP.out
   simpa [possB,rootI_of hx] using this
  simp only[placeB,Bool.and_eq_true,decide_eq_true_eq]at hpl
  have hxl:x<h.cells.length:=by rw[<-rootI_of hx];exact good_rootLt GG.out _
  obtain⟨q,rfl⟩:=Int.eq_ofNat_of_zero_le hpl.1
  obtain⟨l,hxc⟩:∃ l,Hid (h.cells[q]?=some l):=⟨_,hid (List.getElem?_eq_getElem (by omega))⟩
  rw[celI_of hxc]at hpl
  obtain⟨y,hy⟩:∃ y,Hid (l.refs[cn]?=some y):=⟨_,hid (List.getElem?_eq_getElem (by omega))⟩
  obtain⟨gC,cC,A2,c2,eC,hrv,-,-,-,-,-,-,-,-⟩:=H2.cellW 1 rfl hxc
  simp only[Value.slice.injEq]at eC
  obtain⟨rfl,-,rfl⟩:=eC
  have kc1:h.cells.length<=kC:=by obtain⟨_,_,e,hR⟩:=H2.formC 1 rfl;simp only[Value.slice.injEq]at e;have:=hR.cap;omega
  have kr1:h.roots.length<=kR:=by obtain⟨_,_,e,hR⟩:=H2.formI 2 rfl;simp only[Value.slice.injEq]at e;have:=hR.cap;omega
  have HF:Hid (mDo h ⟨2,an,bn,cn⟩ pc=⟨h.cells,h.roots.set an y⟩):=hid (by simp[mDo,rootI_of hx,celI_of hxc,hy.out])
  have hI:=opsAt_2
  have hQ:=opsR_2
  have k3:((2:Int) != 1)=true:=by decide
  obtain⟨b0,b1,b2,b3,-,-,-,-⟩:=box4 H2 4 rfl
  go_wp2_with fail
  have HX:=H2.drew
  clear H2 b0 b1 b2 b3
  obtain⟨b0,b1,b2,b3,-,-,-,-⟩:=box4 HX 4 rfl
  refine wp_region_tree (fun w'=>w'.cell? ⟨w.heap.size+1,0,none⟩=some (.int .i64 2)/\w'.cell? ⟨w.heap.size+1,1,none⟩=some (.int .i64 an)/\w'.cell? ⟨w.heap.size+1,2,none⟩=some (.int .i64 bn)/\w'.cell? ⟨w.heap.size+1,3,none⟩=some (.int .i64 cn)) 6 [] (.take 1 (.take 2 (.take 5 (.alt 0 (.take 3 (.take 4 (.alt 6 (.done) (.stop)))) (.stop))))) (by kernel_rfl) (by kernel_rfl) (by kernel_rfl) (⟨b0,b1,b2,b3⟩) ?_
  simp only[fillT,lgz,Nat.reduceBEq]
  repeat first|(with_reducible apply po_take;(·(go_simp;done));(·(intro w' hS';(try dsimp only at hS');go_simp;try with_reducible rfl));simp only[lpa])|(with_reducible apply po_skip;(·(go_simp;done));simp only[lpa])
  with_reducible refine po_last ?_ (fun K hK=>?_)
  ·(go_simp;done)
  go_simp
  refine (operations_any _).mono ?_
  rintro e w3 ⟨rfl,hb⟩
  replace HX:=HX.call hb
  clear hb b0 b1 b2 b3
  obtain⟨b0,b1,b2,b3,-,-,-,-⟩:=box4 HX 4 rfl
  refine hK.out _ _ (.inr (⟨b0,b1,b2,b3⟩)) ?_
  clear hK K
  repeat first|(with_reducible apply po_take;(·(go_simp;done));(·(intro w' hS';(try dsimp only at hS');go_simp;try with_reducible rfl));simp only[lpa])|(with_reducible apply po_skip;(·(go_simp;done));simp only[lpa])
  with_reducible refine po_last ?_ (fun K hK=>?_)
  ·(go_simp;done)
  go_simp
  refine (runGet_own HX rfl rfl kc1 kr1 2 an bn cn q l xo y hxo hx hxc hy).mono ?_
  rintro e w4 ⟨⟨u,rfl⟩,HY⟩
  clear HX b0 b1 b2 b3
  have HX:=HY
  clear HY
  obtain⟨b0,b1,b2,b3,-,-,-,-⟩:=box4 HX 4 rfl
  refine hK.out _ _ (.inr (⟨b0,b1,b2,b3⟩)) ?_
  clear hK K
  refine po_done ?_
  clear b0 b1 b2 b3
  obtain⟨x0,x1,xf0,xf1⟩:=HX.box2 0 rfl
  obtain⟨y0,y1,y2,y3⟩:=HX.box2 3 rfl
  have HZ:=(HX.putBox 3 rfl 0 (.slice (some ⟨gC,0,none⟩) h.cells.length kC)).putBox 3 rfl 1 (.slice (some ⟨gR,0,none⟩) h.roots.length kR)
  simp only[lnm]at HZ
  obtain⟨z0,z1,-,-⟩:=HZ.box2 3 rfl
  obtain⟨z2,-,-,-⟩:=(HX.putBox 3 rfl 0 (.slice (some ⟨gC,0,none⟩) h.cells.length kC)).box2 3 rfl
  have HS:Hid (MadeHp w (mDo h ⟨2,an,bn,cn⟩ pc) (.returned (.agg #[.slice (some ⟨gC,0,none⟩) h.cells.length kC,.slice (some ⟨gR,0,none⟩) h.roots.length kR])) _):=hid (by rw[HF.out];exact⟨_,_,_,rfl,HZ.order [1,2] (by decide) rfl⟩)
  clear HX HZ
  go_wp2
  exact bodyPost_ret (by simp[results,Tryz.results79,go_sem,z0,z1,z2]) rfl HS.out
 by_cases h3:op=3
 ·subst h3
  obtain⟨bn,rfl⟩:=Int.eq_ofNat_of_zero_le (HCB.out (.inr (.inl rfl))).1
  obtain⟨cn,rfl⟩:=Int.eq_ofNat_of_zero_le (HCC.out (.inr rfl)).1
  have hbn:(bn:Int)<=3:=(HCB.out (.inr (.inl rfl))).2
  obtain⟨z,hz⟩:∃ x,Hid (h.roots[bn]?=some x):=⟨_,hid (List.getElem?_eq_getElem (by omega))⟩
  have hpl:placeB h xo cn=true:=by
   have:=HP.out
   simpa [possB,rootI_of hxo] using this
  simp only[placeB,Bool.and_eq_true,decide_eq_true_eq]at hpl
  have hxl:xo<h.cells.length:=by rw[<-rootI_of hxo];exact good_rootLt GG.out _
  obtain⟨q,rfl⟩:=Int.eq_ofNat_of_zero_le hpl.1
  obtain⟨l,hxc⟩:∃ l,Hid (h.cells[q]?=some l):=⟨_,hid (List.getElem?_eq_getElem (by omega))⟩
  rw[celI_of hxc]at hpl
  obtain⟨y,hy⟩:∃ y,Hid (l.refs[cn]?=some y):=⟨_,hid (List.getElem?_eq_getElem (by omega))⟩
  obtain⟨gC,cC,A2,c2,eC,hrv,-,-,-,-,-,-,-,-⟩:=H2.cellW 1 rfl hxc
  simp only[Value.slice.injEq]at eC
  obtain⟨rfl,-,rfl⟩:=eC
  have kc1:h.cells.length<=kC:=by obtain⟨_,_,e,hR⟩:=H2.formC 1 rfl;simp only[Value.slice.injEq]at e;have:=hR.cap;omega
  have kr1:h.roots.length<=kR:=by obtain⟨_,_,e,hR⟩:=H2.formI 2 rfl;simp only[Value.slice.injEq]at e;have:=hR.cap;omega
  have HF:Hid (mDo h ⟨3,an,bn,cn⟩ pc=⟨h.cells.set q ⟨l.used,l.data,l.refs.set cn z⟩,h.roots⟩):=hid (by simp[mDo,rootI_of hxo,rootI_of hz,celI_of hxc,setRef])
  have hI:=opsAt_3
  have hQ:=opsR_3
  have k3:((3:Int) != 1)=true:=by decide
  obtain⟨b0,b1,b2,b3,-,-,-,-⟩:=box4 H2 4 rfl
  go_wp2_with fail
  have HX:=H2.drew
  clear H2 b0 b1 b2 b3
  obtain⟨b0,b1,b2,b3,-,-,-,-⟩:=box4 HX 4 rfl
  refine wp_region_tree (fun w'=>w'.cell? ⟨w.heap.size+1,0,none⟩=some (.int .i64 3)/\w'.cell? ⟨w.heap.size+1,1,none⟩=some (.int .i64 an)/\w'.cell? ⟨w.heap.size+1,2,none⟩=some (.int .i64 bn)/\w'.cell? ⟨w.heap.size+1,3,none⟩=some (.int .i64 cn)) 6 [] (.take 1 (.take 2 (.take 5 (.alt 0 (.take 3 (.take 4 (.alt 6 (.done) (.stop)))) (.stop))))) (by kernel_rfl) (by kernel_rfl) (by kernel_rfl) (⟨b0,b1,b2,b3⟩) ?_
  simp only[fillT,lgz,Nat.reduceBEq]
  repeat first|(with_reducible apply po_take;(·(go_simp;done));(·(intro w' hS';(try dsimp only at hS');go_simp;try with_reducible rfl));simp only[lpa])|(with_reducible apply po_skip;(·(go_simp;done));simp only[lpa])
  with_reducible refine po_last ?_ (fun K hK=>?_)
  ·(go_simp;done)
  go_simp
  refine (operations_any _).mono ?_
  rintro e w3 ⟨rfl,hb⟩
  replace HX:=HX.call hb
  clear hb b0 b1 b2 b3
  obtain⟨b0,b1,b2,b3,-,-,-,-⟩:=box4 HX 4 rfl
  refine hK.out _ _ (.inr (⟨b0,b1,b2,b3⟩)) ?_
  clear hK K
  repeat first|(with_reducible apply po_take;(·(go_simp;done));(·(intro w' hS';(try dsimp only at hS');go_simp;try with_reducible rfl));simp only[lpa])|(with_reducible apply po_skip;(·(go_simp;done));simp only[lpa])
  with_reducible refine po_last ?_ (fun K hK=>?_)
  ·(go_simp;done)
  go_simp
  refine (runSet_own HX rfl rfl kc1 kr1 3 an bn cn q l z y hxo hz hxc hy).mono ?_
  rintro e w4 ⟨⟨u,rfl⟩,HY⟩
  clear HX b0 b1 b2 b3
  have HX:=HY
  clear HY
  obtain⟨b0,b1,b2,b3,-,-,-,-⟩:=box4 HX 4 rfl
  refine hK.out _ _ (.inr (⟨b0,b1,b2,b3⟩)) ?_
  clear hK K
  refine po_done ?_
  clear b0 b1 b2 b3
  obtain⟨x0,x1,xf0,xf1⟩:=HX.box2 0 rfl
  obtain⟨y0,y1,y2,y3⟩:=HX.box2 3 rfl
  have HZ:=(HX.putBox 3 rfl 0 (.slice (some ⟨gC,0,none⟩) h.cells.length kC)).putBox 3 rfl 1 (.slice (some ⟨gR,0,none⟩) h.roots.length kR)
  simp only[lnm]at HZ
  obtain⟨z0,z1,-,-⟩:=HZ.box2 3 rfl
  obtain⟨z2,-,-,-⟩:=(HX.putBox 3 rfl 0 (.slice (some ⟨gC,0,none⟩) h.cells.length kC)).box2 3 rfl
  have HS:Hid (MadeHp w (mDo h ⟨3,an,bn,cn⟩ pc) (.returned (.agg #[.slice (some ⟨gC,0,none⟩) h.cells.length kC,.slice (some ⟨gR,0,none⟩) h.roots.length kR])) _):=hid (by rw[HF.out];exact⟨_,_,_,rfl,HZ.order [1,2] (by decide) rfl⟩)
  clear HX HZ
  go_wp2
  exact bodyPost_ret (by simp[results,Tryz.results79,go_sem,z0,z1,z2]) rfl HS.out
 by_cases h6:op=6
 ·subst h6
  have HQ:0<=xo:=by
   have:=HP.out
   simpa [possB,rootI_of hxo] using this
  have hxl:xo<h.cells.length:=by rw[<-rootI_of hxo];exact good_rootLt GG.out _
  obtain⟨q,rfl⟩:=Int.eq_ofNat_of_zero_le HQ
  obtain⟨l,hxc⟩:∃ l,Hid (h.cells[q]?=some l):=⟨_,hid (List.getElem?_eq_getElem (by omega))⟩
  obtain⟨gC,cC,A2,c2,eC,hrv,-,-,-,-,-,-,-,-⟩:=H2.cellW 1 rfl hxc
  simp only[Value.slice.injEq]at eC
  obtain⟨rfl,-,rfl⟩:=eC
  have HF:Hid (mDo h ⟨6,an,b,c⟩ pc=⟨h.cells.set q ⟨l.used,b,l.refs⟩,h.roots⟩):=hid (by simp[mDo,rootI_of hxo,celI_of hxc,setDat])
  have hI:=opsAt_6
  have hQ:=opsR_6
  have k3:((6:Int) != 1)=true:=by decide
  obtain⟨b0,b1,b2,b3,-,-,-,-⟩:=box4 H2 4 rfl
  go_wp2_with fail
  have HX:=H2.drew
  clear H2 b0 b1 b2 b3
  obtain⟨b0,b1,b2,b3,-,-,-,-⟩:=box4 HX 4 rfl
  refine wp_region_tree (fun w'=>w'.cell? ⟨w.heap.size+1,0,none⟩=some (.int .i64 6)/\w'.cell? ⟨w.heap.size+1,1,none⟩=some (.int .i64 an)/\w'.cell? ⟨w.heap.size+1,2,none⟩=some (.int .i64 b)/\w'.cell? ⟨w.heap.size+1,3,none⟩=some (.int .i64 c)) 6 [] (.take 1 (.take 2 (.take 5 (.alt 0 (.take 3 (.take 4 (.alt 6 (.done) (.stop)))) (.stop))))) (by kernel_rfl) (by kernel_rfl) (by kernel_rfl) (⟨b0,b1,b2,b3⟩) ?_
  simp only[fillT,lgz,Nat.reduceBEq]
  repeat first|(with_reducible apply po_take;(·(go_simp;done));(·(intro w' hS';(try dsimp only at hS');go_simp;try with_reducible rfl));simp only[lpa])|(with_reducible apply po_skip;(·(go_simp;done));simp only[lpa])
  with_reducible refine po_last ?_ (fun K hK=>?_)
  ·(go_simp;done)
  go_simp
  refine (operations_any _).mono ?_
  rintro e w3 ⟨rfl,hb⟩
  replace HX:=HX.call hb
  clear hb b0 b1 b2 b3
  obtain⟨b0,b1,b2,b3,-,-,-,-⟩:=box4 HX 4 rfl
  refine hK.out _ _ (.inr (⟨b0,b1,b2,b3⟩)) ?_
  clear hK K
  repeat first|(with_reducible apply po_take;(·(go_simp;done));(·(intro w' hS';(try dsimp only at hS');go_simp;try with_reducible rfl));simp only[lpa])|(with_reducible apply po_skip;(·(go_simp;done));simp only[lpa])
  with_reducible refine po_last ?_ (fun K hK=>?_)
  ·(go_simp;done)
  go_simp
  refine (runData_own HX rfl rfl 6 b c an q l hxo hxc).mono ?_
  rintro e w4 ⟨⟨u,rfl⟩,HY⟩
  clear HX b0 b1 b2 b3
  have HX:=HY
  clear HY
  obtain⟨b0,b1,b2,b3,-,-,-,-⟩:=box4 HX 4 rfl
  refine hK.out _ _ (.inr (⟨b0,b1,b2,b3⟩)) ?_
  clear hK K
  refine po_done ?_
  clear b0 b1 b2 b3
  obtain⟨x0,x1,xf0,xf1⟩:=HX.box2 0 rfl
  obtain⟨y0,y1,y2,y3⟩:=HX.box2 3 rfl
  have HZ:=(HX.putBox 3 rfl 0 (.slice (some ⟨gC,0,none⟩) h.cells.length kC)).putBox 3 rfl 1 (.slice (some ⟨gR,0,none⟩) h.roots.length kR)
  simp only[lnm]at HZ
  obtain⟨z0,z1,-,-⟩:=HZ.box2 3 rfl
  obtain⟨z2,-,-,-⟩:=(HX.putBox 3 rfl 0 (.slice (some ⟨gC,0,none⟩) h.cells.length kC)).box2 3 rfl
  have HS:Hid (MadeHp w (mDo h ⟨6,an,b,c⟩ pc) (.returned (.agg #[.slice (some ⟨gC,0,none⟩) h.cells.length kC,.slice (some ⟨gR,0,none⟩) h.roots.length kR])) _):=hid (by rw[HF.out];exact⟨_,_,_,rfl,HZ.order [1,2] (by decide) rfl⟩)
  clear HX HZ
  go_wp2
  exact bodyPost_ret (by simp[results,Tryz.results79,go_sem,z0,z1,z2]) rfl HS.out
 by_cases h1:op=1
 ·subst h1
  have hok:=HC'.out
  rw[cmdOk1]at hok
  simp only[Bool.and_eq_true,inR_iff]at hok
  obtain⟨bn,rfl⟩:=Int.eq_ofNat_of_zero_le hok.1.2.1
  have hbn:(bn:Int)<=3:=hok.1.2.2
  have HF:Hid (∀ n,n=bn->mDo h ⟨1,an,n,c⟩ pc=⟨putCel h.cells pc ⟨true,c,emptyTo n⟩,h.roots.set an (pc:Int)⟩):=hid (fun n e=>by subst e;simp[mDo,newCel,emptyTo])
  clear hok
  have H3:=(H2.box [.bool true,.int .i64 c,.slice none 0 0] 68).noInts
  simp only[World.size_alloc]at H3
  obtain⟨b0,b1,b2,b3,-,-,-,-⟩:=box4 H2 4 rfl
  obtain⟨d0,d1,d2,d3,-,-,-,-⟩:=box4 H3 6 rfl
  clear H2
  go_wp2_with fail
  clear b0 b1 b2 b3 d0 d1 d2 d3
  go_loopw [27] (fun i wr=>∃ (k:Nat) (v:Value),i=.int .i64 k/\k<=bn/\Owns w.heap.size w wr [.ints v (emptyTo k),.box (w1.heap.size+1) [.bool true,.int .i64 c,v] 68,.box w1.heap.size [.slice C h.cells.length kC,.slice (some ⟨gR,0,none⟩) h.roots.length kR] 29,.cells (.slice C h.cells.length kC) rvs h.cells,.ints (.slice (some ⟨gR,0,none⟩) h.roots.length kR) h.roots,.box (w.heap.size+1+1) [.slice none 0 0,.slice none 0 0] 29,.box (w.heap.size+1) [.int .i64 1,.int .i64 an,.int .i64 bn,.int .i64 c] 79,.box w.heap.size [.slice D m d,.slice D' m' d'] 29]) (fun i _=>bn - (intOf i).toNat)
  case atStart=>exact⟨0,_,rfl,Nat.zero_le _,H3⟩
  case round =>
   clear H3
   obtain⟨k,v,rfl,hk,H⟩:=hrel
   obtain⟨A,c1,rfl,-⟩:=H.formI 0 rfl
   have el:(emptyTo k).length=k:=by simp[emptyTo]
   rw[el]at H
   have HL:=hid el
   clear el
   obtain⟨u0,u1,u2,u3,u4,u5⟩:=H.box3 1 rfl
   obtain⟨b0,b1,b2,b3,-,-,-,-⟩:=box4 H 6 rfl
   by_cases hlt:k<bn
   ·have H4:=H.litI [-1] one_le_maxLen
    simp only[lml]at H4
    have e:emptyTo k++[-1]=emptyTo (k+1):=by simp[emptyTo,List.replicate_succ']
    have HE:=hid e
    clear e
    go_wp2_with (at_builtin;go_loud (refine wpList_pushO rfl (.tmp 30) (.tmp 31) rfl H4 1 rfl rfl rfl (rdI_new _ _ _ rfl) (by rw[HL.out];simp;omega) ?_;intro A3 k3 w3 H5;simp only[lsz,List.length_append,List.length_cons,List.length_nil,Nat.zero_add]at H5;rw[HE.out]at H5;obtain⟨e0,e1,e2,e3,e4,e5⟩:=H5.box3 2 rfl))
    have H6:=(H5.putBox 2 rfl 2 (.slice A3 ((emptyTo k).length+1) k3)).erase 0
    simp only[lnm]at H6
    go_roundw
    case rel=>exact⟨k+1,_,by go_num,by omega,H6⟩
    case measure=>simp[intOf];omega
   ·obtain rfl:k=bn:=by omega
    obtain⟨x0,x1,xf0,xf1⟩:=H.box2 2 rfl
    by_cases hpq:pc=h.cells.length
    ·have k1:((pc:Int) == (h.cells.length:Int))=true:=by simp;omega
     have i1:(0:Int)<=(pc:Int):=by omega
     have i2:(pc:Int)<(h.cells.length:Int)+1:=by omega
     have HF2:Hid (mDo h ⟨1,an,k,c⟩ pc=⟨(h.cells++[noCel]).set pc ⟨true,c,emptyTo k⟩,h.roots.set an (pc:Int)⟩):=hid (by rw[HF.out k rfl,putCel,if_pos hpq,hpq];simp)
     have hl0:Hid ((h.cells++[noCel])[pc]?=some noCel):=hid (by rw[hpq];simp)
     clear hpq
     have H4:=H.noInts.alloc (.cells #[.bool false,.int .i64 0,.slice none 0 0] 68)
     go_wp2_with (at_builtin;go_loud (refine wpList_pushCO rfl (.tmp 41) (.tmp 43) rfl H4 4 0 (c:=noCel) (rv:=.slice none 0 0) rfl rfl rfl rfl rfl (heap1 wr _) (by omega) ?_;intro A3 k3 w3 H5;simp only[lsz,List.eraseIdx_cons_zero,List.length_append,List.length_cons,List.length_nil,Nat.zero_add]at H5;obtain⟨e0,e1,e2,e3⟩:=H5.box2 2 rfl;have H6:=H5.putBox 2 rfl 0 (.slice A3 (h.cells.length+1) k3);simp only[lsz]at H6;obtain⟨gC,cC,A2,c2,eC,-,s0,s1,s2,t0,t1,t2,-,-⟩:=H6.cellW 3 rfl hl0;simp only[Value.slice.injEq]at eC;obtain⟨rfl,-,rfl⟩:=eC;obtain⟨n0,n1,nf0,nf1⟩:=H6.box2 2 rfl;obtain⟨v0,v1,v2,-,-,-⟩:=H6.box3 1 rfl;have H7:=H6.putCell 3 0 (c:=⟨true,c,emptyTo k⟩) (rv:=.slice A k c1) rfl rfl (by simp) pc (by simp;omega);simp only[lsz,List.eraseIdx_cons_zero]at H7;obtain⟨j0,j1,-,-⟩:=H7.box2 1 rfl;obtain⟨f0,f1,f2,f3,-,-,-,-⟩:=box4 H7 5 rfl;obtain⟨r0,r1⟩:=H7.intAt 3 rfl rfl hxo;have H8:=H7.setInt 3 rfl rfl an (pc:Int);simp only[lsz]at H8;obtain⟨l0,l1,-,-⟩:=H8.box2 1 rfl;obtain⟨y0,y1,y2,y3⟩:=H8.box2 4 rfl;have HZ:=(H8.putBox 4 rfl 0 (.slice (some ⟨gC,0,none⟩) (h.cells.length+1) k3)).putBox 4 rfl 1 (.slice (some ⟨gR,0,none⟩) h.roots.length kR);simp only[lsz]at HZ;obtain⟨z0,z1,-,-⟩:=HZ.box2 4 rfl;obtain⟨z2,-,-,-⟩:=(H8.putBox 4 rfl 0 (.slice (some ⟨gC,0,none⟩) (h.cells.length+1) k3)).box2 4 rfl))
     have HS:Hid (MadeHp w (mDo h ⟨1,an,k,c⟩ pc) (.returned (.agg #[.slice (some ⟨gC,0,none⟩) (h.cells.length+1) k3,.slice (some ⟨gR,0,none⟩) h.roots.length kR])) _):=hid (by rw[HF2.out];exact⟨_,_,_,rfl,HZ.order [2,3] (by decide) rfl⟩)
     exact bodyPost_ret (by simp[results,Tryz.results79,go_sem,z0,z1,z2]) rfl HS.out
    ·have hpl:pc<h.cells.length:=by omega
     have k1:((pc:Int) == (h.cells.length:Int))=false:=by simp;omega
     have i1:(0:Int)<=(pc:Int):=by omega
     have i2:(pc:Int)<(h.cells.length:Int):=by omega
     have HF2:Hid (mDo h ⟨1,an,k,c⟩ pc=⟨h.cells.set pc ⟨true,c,emptyTo k⟩,h.roots.set an (pc:Int)⟩):=hid (by rw[HF.out k rfl,putCel,if_neg hpq])
     obtain⟨l0,hl0⟩:∃ l0,Hid (h.cells[pc]?=some l0):=⟨_,hid (List.getElem?_eq_getElem hpl)⟩
     obtain⟨gC,cC,A2,c2,eC,-,s0,s1,s2,t0,t1,t2,-,-⟩:=H.cellW 3 rfl hl0
     simp only[Value.slice.injEq]at eC
     obtain⟨rfl,-,rfl⟩:=eC
     obtain⟨x0,x1,xf0,xf1⟩:=H.box2 2 rfl
     have H5:=H.putCell 3 0 (c:=⟨true,c,emptyTo k⟩) (rv:=.slice A k c1) rfl rfl rfl pc hpl
     simp only[lsz,List.eraseIdx_cons_zero]at H5
     obtain⟨e0,e1,-,-⟩:=H5.box2 1 rfl
     obtain⟨f0,f1,f2,f3,-,-,-,-⟩:=box4 H5 5 rfl
     obtain⟨r0,r1⟩:=H5.intAt 3 rfl rfl hxo
     have H7:=H5.setInt 3 rfl rfl an (pc:Int)
     simp only[lsz]at H7
     obtain⟨j0,j1,-,-⟩:=H7.box2 1 rfl
     obtain⟨y0,y1,y2,y3⟩:=H7.box2 4 rfl
     have HZ:=(H7.putBox 4 rfl 0 (.slice (some ⟨gC,0,none⟩) h.cells.length kC)).putBox 4 rfl 1 (.slice (some ⟨gR,0,none⟩) h.roots.length kR)
     simp only[lsz]at HZ
     obtain⟨z0,z1,-,-⟩:=HZ.box2 4 rfl
     obtain⟨z2,-,-,-⟩:=(H7.putBox 4 rfl 0 (.slice (some ⟨gC,0,none⟩) h.cells.length kC)).box2 4 rfl
     have HS:Hid (MadeHp w (mDo h ⟨1,an,k,c⟩ pc) (.returned (.agg #[.slice (some ⟨gC,0,none⟩) h.cells.length kC,.slice (some ⟨gR,0,none⟩) h.roots.length kR])) _):=hid (by rw[HF2.out];exact⟨_,_,_,rfl,HZ.order [2,3] (by decide) rfl⟩)
     clear H H5 H7 HZ
     go_wp2
     exact bodyPost_ret (by simp[results,Tryz.results79,go_sem,z0,z1,z2]) rfl HS.out
 exact absurd HC'.out (by rw[cmdOk0 _ _ _ ⟨h1,h2,h3,h4,h5,h6⟩];exact Bool.false_ne_true)
end Go.Proofs.YtgppgjgcnpimiaaGreat
