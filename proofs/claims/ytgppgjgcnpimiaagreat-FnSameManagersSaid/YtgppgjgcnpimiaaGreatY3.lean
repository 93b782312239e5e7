/- Texts of one proof, joined, without their blanks: S6, Vg, RcI, Os, L9, Cys, Wp, Rg, Wr, Sl, RlI, Aq, Lz, Lp, LtC, Ai, Aj, Ak, An, Ar, Asv, Pta, Ptb, Ptc, Ptd, Pte. No condition but what each statement names. -/
import Derived.Test.YtgppgjgcnpimiaaGreatY2
import Derived.Deep.OwnRows
namespace Go.Proofs.YtgppgjgcnpimiaaGreat
open Go.RowKit
open Go.Lib (hid)
set_option linter.unusedVariables false
set_option linter.unusedSimpArgs false
set_option maxHeartbeats 6400000 in
set_option maxRecDepth 20000 in
theorem implRunSweep_any (w:World) (B:Nat) (A:Option Addr) (n c:Nat) (cs:List Cmd) (hr:RdQ w B A n c cs) (LI:Int):
  Calls Tryz.prog 154 #[.slice A n c,.int .i64 LI] w (MadeHBl w (mRunSwH cs LI) (mRunSwB cs LI)):=by
 have hr:=hr.top
 obtain rfl:=hr.len
 have hm:=Nat.le_trans hr.cap hr.mx
 unfold maxLen at hm
 have H:=(Owns.nil w).box [.slice none 0 0,.slice none 0 0] 29
 go_enter Tryz.func154,Tryz.ntmps154
 go_wp2_with fail
 refine (implCommandsValid_any _ _ _ _ _ cs (hr.below H.below)).mono ?_
 rintro e w1 ⟨rfl,hb⟩
 replace H:=H.call hb
 clear hb
 obtain⟨y0,y1,y2,y3⟩:=H.box2 0 rfl
 cases hc:cmdsOk cs
 ·have HF1:=hid (swH_no1 (L:=LI) hc)
  have HF2:=hid (swB_no1 (L:=LI) hc)
  clear hc
  have HZ:=(((H.putBox 0 rfl 0 (.slice none 0 0)).putBox 0 rfl 1 (.slice none 0 0)).noInts).noCells
  simp only[lnm]at HZ
  obtain⟨z0,z1,-,-⟩:=HZ.box2 2 rfl
  have HS:Hid (MadeHBl w (mRunSwH cs LI) (mRunSwB cs LI) (.returned (.tuple #[.agg #[.slice none 0 0,.slice none 0 0],.bool false])) _):=hid (by rw[HF1.out,HF2.out];exact⟨_,[],_,rfl,HZ.take 2⟩)
  clear HZ H
  go_wp2
  exact bodyPost_ret (by simp[results,Tryz.results154,go_sem,z0,z1]) rfl HS.out
 go_wp2_with fail
 refine (isLimit_any LI _).mono ?_
 rintro e w2 ⟨rfl,hw⟩
 obtain rfl:=hw
 cases hl:inR LI 1 40
 ·have HF1:=hid (swH_no2 (cs:=cs) hl)
  have HF2:=hid (swB_no2 (cs:=cs) hl)
  clear hc hl
  have HZ:=(((H.putBox 0 rfl 0 (.slice none 0 0)).putBox 0 rfl 1 (.slice none 0 0)).noInts).noCells
  simp only[lnm]at HZ
  obtain⟨z0,z1,-,-⟩:=HZ.box2 2 rfl
  have HS:Hid (MadeHBl w (mRunSwH cs LI) (mRunSwB cs LI) (.returned (.tuple #[.agg #[.slice none 0 0,.slice none 0 0],.bool false])) _):=hid (by rw[HF1.out,HF2.out];exact⟨_,[],_,rfl,HZ.take 2⟩)
  clear HZ H
  go_wp2
  exact bodyPost_ret (by simp[results,Tryz.results154,go_sem,z0,z1]) rfl HS.out
 obtain⟨q1,q2⟩:=inR_iff.1 hl
 obtain⟨L,rfl⟩:=Int.eq_ofNat_of_zero_le (show 0<=LI by omega)
 have hL1:1<=L:=by omega
 have hL2:L<=40:=by omega
 have HA:=hid (cmdsOk_all hc)
 obtain⟨RR,hRR⟩:∃ r,r=runSw L emptyH cs:=⟨_,rfl⟩
 have HF1:Hid (mRunSwH cs (L:Int)=RR.1):=hid (by rw[swH_yes hc hL1 hL2,hRR])
 have HF2:Hid (mRunSwB cs (L:Int)=RR.2):=hid (by rw[swB_yes hc hL1 hL2,hRR])
 have HR0:Hid (runSw L emptyH (cs.drop 0)=RR):=hid (by rw[hRR,List.drop_zero])
 clear hc hl q1 q2 hRR
 go_wp2_with fail
 refine (implEmptyHeap_any _).mono ?_
 rintro e w3 ⟨cv,rvs,rv,rfl,K⟩
 replace K:=H.merge K
 simp only[lca]at K
 obtain⟨C,kC,rfl,-⟩:=K.formC 0 rfl
 obtain⟨R,kR,rfl,-⟩:=K.formI 1 rfl
 clear H y0 y1 y2 y3
 have H3:=K.box [.slice C emptyH.cells.length kC,.slice R emptyH.roots.length kR] 29
 clear K
 go_wp2_with fail
 go_loopw [24] (fun i wr=>∃ (k:Nat) (C R:Option Addr) (kC kR:Nat) (rvs:List Value) (h:Hp),i=.int .i64 k/\k<=cs.length/\Hid (runSw L h (cs.drop k)=RR)/\Hid (Good h)/\Owns w.heap.size w wr [.box w3.heap.size [.slice C h.cells.length kC,.slice R h.roots.length kR] 29,.cells (.slice C h.cells.length kC) rvs h.cells,.ints (.slice R h.roots.length kR) h.roots,.box w.heap.size [.slice none 0 0,.slice none 0 0] 29]) (fun i _=>cs.length - (intOf i).toNat)
 case atStart=>exact⟨0,C,R,kC,kR,rvs,emptyH,rfl,Nat.zero_le _,HR0,hid emptyH_good,H3⟩
 case round =>
  clear H3 HR0
  obtain⟨k,C,R,kC,kR,rvs,h,rfl,hk,HR,GG,H⟩:=hrel
  obtain⟨x0,x1,x2,x3⟩:=H.box2 0 rfl
  by_cases hlt:k<cs.length
  ·obtain⟨b,o,p,rfl,hbb,hx,q1,q2,q3,q4⟩:=hr.at_ hlt
   have HP:Hid (cmdOk p=true):=hid (HA.out p (List.mem_of_getElem? hx.out))
   have HGN:=hid (stepSw_good (L:=L) GG.out HP.out hL2)
   have HST:=hid (fun h1 h2=>runSw_stop (p:=p) hx HR.out h1 h2)
   have HGO:=hid (fun hn=>runSw_go (p:=p) hx HR.out hn)
   have HPZ:=hid (fun (hp:possB h p=true) hb=>stepSw_new (L:=L) hp hb)
   clear HR
   have g1:=H.ro q1 hbb
   have g2:=H.ro q2 hbb
   have g3:=H.ro q3 hbb
   have g4:=H.ro q4 hbb
   have H0:=H.box [.int .i64 p.op,.int .i64 p.a,.int .i64 p.b,.int .i64 p.c] 79
   clear H x0 x1 x2 x3
   obtain⟨x0,x1,-,-⟩:=H0.box2 1 rfl
   have HV:=hid (mPoss_yes (good_iff.2 GG.out) HP.out)
   go_wp2_with fail
   refine (implPossible_any _ _ _ h (H0.rdH 2 3 rfl rfl) p).mono ?_
   rintro e w4 ⟨rfl,hb⟩
   rw[HV.out]
   replace H0:=H0.call hb
   clear hb x0 x1 g1 g2 g3 g4
   obtain⟨x0,x1,-,-⟩:=H0.box2 1 rfl
   obtain⟨b0,b1,b2,b3,-,-,-,-⟩:=box4 H0 0 rfl
   go_wp2_with fail
   refine (implStepSweep_any _ _ _ h (H0.rdH 2 3 rfl rfl) L hL1 hL2 p GG.out HP.out).mono ?_
   rintro e w5 ⟨cv,rvs',rv,rfl,K⟩
   replace K:=H0.merge K
   simp only[lca]at K
   obtain⟨T,hT⟩:∃ T,T=(stepSw h L p).1:=⟨_,rfl⟩
   obtain⟨tb,htb⟩:∃ b,b=(stepSw h L p).2:=⟨_,rfl⟩
   obtain⟨pb,hpb⟩:∃ b,b=possB h p:=⟨_,rfl⟩
   rw[<-htb,<-hpb]
   rw[<-htb,<-hT]at HST
   rw[<-htb,<-hT]at HGO
   rw[<-hpb,<-htb]at HPZ
   rw[<-hT]at K HGN
   have HNP:Hid (pb=false->¬ p.op=1):=hid fun e h1=>by rw[hpb,poss_new h1]at e;cases e
   clear hT htb hpb H0 x0 x1 b0 b1 b2 b3 HV
   obtain⟨C',kC',rfl,-⟩:=K.formC 0 rfl
   obtain⟨R',kR',rfl,-⟩:=K.formI 1 rfl
   have HY:=K.box [.slice C' T.cells.length kC',.slice R' T.roots.length kR'] 29
   clear K
   revert HY
   intro HY
   obtain⟨n0,n1,-,-⟩:=HY.box2 0 rfl
   obtain⟨x0,x1,x2,x3⟩:=HY.box2 4 rfl
   have HW:=(HY.putBox 4 rfl 0 (.slice C' T.cells.length kC')).putBox 4 rfl 1 (.slice R' T.roots.length kR')
   simp only[lnm]at HW
   obtain⟨v0,v1,-,-⟩:=HW.box2 4 rfl
   have HW7:=HW.places [4,1,2,7] (by decide) (by simp)
   simp only[lfm,lsz]at HW7
   by_cases hstop:pb=true/\tb=false
   ·obtain⟨hp1,ht1⟩:=hstop
    subst hp1 ht1
    have HE:=hid (HST.out rfl (HPZ.out rfl rfl))
    obtain⟨y0,y1,y2,y3⟩:=HW.box2 7 rfl
    have HZ:=(HW.putBox 7 rfl 0 (.slice C' T.cells.length kC')).putBox 7 rfl 1 (.slice R' T.roots.length kR')
    simp only[lnm]at HZ
    obtain⟨z0,z1,-,-⟩:=HZ.box2 7 rfl
    obtain⟨z2,-,-,-⟩:=(HW.putBox 7 rfl 0 (.slice C' T.cells.length kC')).box2 7 rfl
    have HS:Hid (MadeHBl w (mRunSwH cs (L:Int)) (mRunSwB cs (L:Int)) (.returned (.tuple #[.agg #[.slice C' T.cells.length kC',.slice R' T.roots.length kR'],.bool false])) _):=hid (by rw[HF1.out,HF2.out,HE.out];exact⟨_,rvs',_,rfl,HZ.order [1,2] (by decide) rfl⟩)
    clear HY HW HW7 HZ q1 q2 q3 q4
    go_wp2
    exact bodyPost_ret (by simp[results,Tryz.results154,go_sem,z0,z1,z2]) rfl HS.out
   ·have HE:Hid (runSw L T (List.drop (k+1) cs)=RR):=hid (HGO.out fun hk=>by
     cases hpe:pb
     ·exact HNP.out hpe hk.2
     ·exact hstop ⟨hpe,hk.1⟩)
    clear HY HW q1 q2 q3 q4 HST HGO HPZ HNP
    cases pb <;> cases tb
    ·clear hstop
     go_wp2_with fail
     go_roundw
     case rel=>exact⟨k+1,C',R',kC',kR',rvs',T,by go_num,by omega,HE,HGN,HW7⟩
     case measure=>simp[intOf];omega
    ·clear hstop
     go_wp2_with fail
     go_roundw
     case rel=>exact⟨k+1,C',R',kC',kR',rvs',T,by go_num,by omega,HE,HGN,HW7⟩
     case measure=>simp[intOf];omega
    ·exact absurd ⟨rfl,rfl⟩ hstop
    ·clear hstop
     go_wp2_with fail
     go_roundw
     case rel=>exact⟨k+1,C',R',kC',kR',rvs',T,by go_num,by omega,HE,HGN,HW7⟩
     case measure=>simp[intOf];omega
  ·have HE:=hid (runSw_out (by omega) HR.out)
   obtain⟨y0,y1,y2,y3⟩:=H.box2 3 rfl
   have HZ:=(H.putBox 3 rfl 0 (.slice C h.cells.length kC)).putBox 3 rfl 1 (.slice R h.roots.length kR)
   simp only[lnm]at HZ
   obtain⟨z0,z1,-,-⟩:=HZ.box2 3 rfl
   obtain⟨z2,-,-,-⟩:=(H.putBox 3 rfl 0 (.slice C h.cells.length kC)).box2 3 rfl
   have HS:Hid (MadeHBl w (mRunSwH cs (L:Int)) (mRunSwB cs (L:Int)) (.returned (.tuple #[.agg #[.slice C h.cells.length kC,.slice R h.roots.length kR],.bool true])) _):=hid (by rw[HF1.out,HF2.out,HE.out];exact⟨_,rvs,_,rfl,HZ.order [1,2] (by decide) rfl⟩)
   clear H HZ
   go_wp2
   exact bodyPost_ret (by simp[results,Tryz.results154,go_sem,z0,z1,z2]) rfl HS.out
theorem copyCel_snoc {h:Hp}{o o':List Int}{k:Nat}{x:Int}(hx:Hid (o'[k]?=some x)):(o'.take (k+1)).map (copyCel h o)=(o'.take k).map (copyCel h o)++[copyCel h o x]:=by
 rw[take_snoc' hx,List.map_append];rfl
set_option maxHeartbeats 3200000 in
set_option maxRecDepth 20000 in
theorem gathered_any (w:World) (B B':Nat) (v:Value) (h:Hp) (A:Option Addr) (n c:Nat) (o:List Int) (hh:RdH w B v h) (hr:RdI w B' A n c o) (hok:heapOk h=true) (hd:o.Nodup) (hl:o.length<=40) (hm:∀ c,c∈o ↔ RchI h c):
  Calls Tryz.prog 171 #[v,.slice A n c] w (MadeH w (gath h o)):=by
 have hh':=hh.top
 have hr:=hr.top
 obtain⟨D,m,d,D',m',d',rfl,hC,hR⟩:=hh.top
 have l3:=hC.le1;have l4:=hC.le2
 have l1:=RdI.le1 hr;have l2:=RdI.le2 hr
 have l5:=RdI.le1 hR;have l6:=RdI.le2 hR
 obtain⟨s4,s5⟩:=heapOk_small hok
 have HOr:Hid (∀ x∈o,0<=x/\x<m):=hid fun x hx=>by have h1:=(hm x).1 hx;have h2:=reach_lt h1;exact⟨h1.1,by omega⟩
 have HNd:=hid hd
 have HNeg:Hid (nameI o (-1)=-1):=hid (nameI_out fun k=>by have:=((hm _).1 k).1;omega)
 have HCl:Hid (∀ (c:Nat) (l:Cel),h.cells[c]?=some l->l.refs.length<=3/\∀ r∈l.refs,r=-1\/(0<=r/\r.toNat<h.cells.length)):=hid fun c l hl=>refs3 hok hl
 have HRt:Hid (∀ r∈h.roots,r=-1\/(0<=r/\r.toNat<h.cells.length)):=hid fun r hr=>by
  have h1:=(heapOk_leads hok).1 r hr
  by_cases h0:0<=r
  ·exact .inr ⟨h0,usedN_lt (leadsB_used h1 h0)⟩
  ·refine .inl ?_
   unfold leadsB at h1
   rw[decide_eq_false h0]at h1
   simpa using h1
 clear hd hm hok
 have H1:=((Owns.nil w).box [.slice D m d,.slice D' m' d'] 29).box [.slice none 0 0,.slice none 0 0] 29
 simp only[lnm]at H1
 obtain⟨a0,a1,-,-⟩:=H1.box2 1 rfl
 go_enter Tryz.func171,Tryz.ntmps171
 go_wp2_with fail
 refine (numbersIn_any _ _ _ _ _ o m (hr.below H1.below) (by omega) HNd.out HOr.out).mono ?_
 rintro e w1 ⟨v1,rfl,ho,hb⟩
 have H2:=H1.madeI ho hb
 obtain⟨N,hN⟩:∃ N,N=numL o m:=⟨_,rfl⟩
 rw[<-hN]at H2
 have HN:Hid (∀ q,q<m->N[q]?=some (nameI o (q:Int))):=hid fun q hq=>by rw[hN];exact numL_at hq
 clear hN H1 ho hb a0 a1
 obtain⟨E,kE,rfl,-⟩:=H2.formI 0 rfl
 obtain⟨a0,a1,-,-⟩:=H2.box2 2 rfl
 go_wp2_with fail
 refine (renamed_any _ _ _ _ _ _ _ _ _ h.roots N (nameI o) (hR.below H2.below) (H2.owI 0 rfl).rdI (by omega) (fun r hr h0=>?_) fun r hr h0=>?_).mono ?_
 ·rcases HRt.out r hr with e|⟨k,-⟩
  ·rw[e];exact HNeg.out
  ·omega
 ·rcases HRt.out r hr with e|⟨k,k2⟩
  ·omega
  ·rw[HN.out _ (by omega),Int.toNat_of_nonneg k]
 rintro e w2 ⟨v2,rfl,ho,hb⟩
 have H3:=H2.madeI ho hb
 obtain⟨R,hRg⟩:∃ R,R=h.roots.map (nameI o):=⟨_,rfl⟩
 rw[<-hRg]at H3
 have HRg:=hid hRg
 clear H2 ho hb a0 a1 hRg
 obtain⟨A3,k3,rfl,-⟩:=H3.formI 0 rfl
 have H4:=(H3.box [.slice none 0 0,.slice A3 R.length k3] 29).noCells
 clear H3
 obtain⟨a0,a1,-,-⟩:=H4.box2 5 rfl
 go_wp2_with fail
 go_loopw [22] (fun i wr=>∃ (k:Nat) (cv:Value) (rvs:List Value),i=.int .i64 k/\k<=n/\Owns w.heap.size w wr [.cells cv rvs ((o.take k).map (copyCel h o)),.box w2.heap.size [cv,.slice A3 R.length k3] 29,.ints (.slice A3 R.length k3) R,.ints (.slice E N.length kE) N,.box (w.heap.size+1) [.slice none 0 0,.slice none 0 0] 29,.box w.heap.size [.slice D m d,.slice D' m' d'] 29]) (fun i _=>n - (intOf i).toNat)
 case atStart=>exact⟨0,_,_,rfl,Nat.zero_le _,H4⟩
 case round =>
  clear H4 a0 a1
  obtain⟨k,cv,rvs,rfl,hk,H⟩:=hrel
  by_cases hlt:k<n
  ·obtain⟨bo,oo,x,rfl,hbo,hx0,q0⟩:=RdI.at_ hr hlt
   obtain⟨hp0,hp1⟩:=HOr.out x (List.mem_of_getElem? hx0.out)
   obtain⟨q,rfl⟩:=Int.eq_ofNat_of_zero_le hp0
   have hq:q<m:=by omega
   obtain⟨b,ob,l,A2,n2,c2,rfl,hbb,hx,q1,q2,q3,hrf⟩:=hC.at_ hq
   have g0:=H.ro q0 hbo
   have g1:=H.ro q1 hbb
   have g2:=H.ro q2 hbb
   have g3:=H.ro q3 hbb
   obtain⟨a0,a1,-,-⟩:=H.box2 5 rfl
   have HF:=hid (HCl.out q l hx.out)
   have hf3:=HF.out.1
   have r1:=RdI.le1 hrf;have r2:=RdI.le2 hrf
   have hT:=copyCel_snoc (h:=h) (o:=o) hx0
   have hlc:copyCel h o (q:Int)=⟨true,l.data,l.refs.map (nameI o)⟩:=by unfold copyCel;rw[cel_at hx]
   have hlen:((o.take k).map (copyCel h o)).length<=k:=by simp;omega
   have hlen2:k<=((o.take k).map (copyCel h o)).length:=by simp;omega
   have HX:=(H.box [.bool l.used,.int .i64 l.data,.slice A2 n2 c2] 68).drew
   obtain⟨x0,x1,xf,-⟩:=HX.box2 2 rfl
   obtain⟨y0,y1,y2,-,-,-⟩:=HX.box3 0 rfl
   generalize (o.take k).map (copyCel h o)=X at *
   generalize copyCel h o (q:Int)=lc at *
   have i3:(0:Int)<=(q:Int):=by omega
   have i4:(q:Int)<(m:Int):=by omega
   clear q0 q1 q2 q3 hp0 hp1 hx0
   go_wp2_with fail
   clear g0 g1 g2 g3 a0 a1
   refine wp_region_tree (fun w'=>w'.cell? ⟨w2.heap.size,0,none⟩=some cv/\w'.cell? ⟨wr.heap.size,1,none⟩=some (.int .i64 l.data)/\w'.cell? ⟨wr.heap.size,2,none⟩=some (.slice A2 n2 c2)) 12 [] (.take 0 (.take 1 (.take 2 (.take 3 (.take 4 (.take 5 (.take 6 (.alt 7 (.take 8 (.alt 9 (.alt 10 (.take 11 (.alt 12 (.done) (.stop))) (.stop)) (.stop))) (.stop))))))))) (by kernel_rfl) (by kernel_rfl) (by kernel_rfl) (⟨x0,y1,y2⟩) ?_
   simp only[fillT,lgz,Nat.reduceBEq]
   repeat first|(with_reducible apply po_take;(·(go_simp;done));(·(intro w' hS';(try dsimp only at hS');go_simp;try with_reducible rfl));simp only[lpa])|(with_reducible apply po_skip;(·(go_simp;done));simp only[lpa])
   with_reducible refine po_last ?_ (fun K hK=>?_)
   ·(go_simp;done)
   go_simp
   refine (renamed_any _ _ _ _ _ _ _ _ _ l.refs N (nameI o) (hrf.below HX.below) (HX.owI 4 rfl).rdI (by omega) (fun r hr h0=>?_) fun r hr h0=>?_).mono ?_
   ·rcases HF.out.2 r hr with e|⟨k,-⟩
    ·rw[e];exact HNeg.out
    ·omega
   ·rcases HF.out.2 r hr with e|⟨k,k2⟩
    ·omega
    ·rw[HN.out _ (by omega),Int.toNat_of_nonneg k]
   rintro e w3 ⟨v3,rfl,ho,hb⟩
   have hLr:l.refs.map (nameI o)=lc.refs:=by rw[hlc]
   have e1:Hid (true=lc.used):=hid (by rw[hlc])
   have e2:Hid (l.data=lc.data):=hid (by rw[hlc])
   rw[hLr]at ho
   clear hLr hlc
   obtain⟨A4,k4,rfl,-⟩:=ho.form
   replace HX:=HX.madeI ho hb
   refine hK.out _ _ (.inr (⟨keept x0 hb,keept y1 hb,keept y2 hb⟩)) ?_
   clear hK K
   replace x0:=keept x0 hb
   replace y1:=keept y1 hb
   replace y2:=keept y2 hb
   repeat first|(with_reducible apply po_take;(·(go_simp;done));(·(intro w' hS';(try dsimp only at hS');go_simp;try with_reducible rfl));simp only[lpa])|(with_reducible apply po_skip;(·(go_simp;done));simp only[lpa])
   with_reducible refine po_last ?_ (fun K hK=>?_)
   ·(go_simp;done)
   go_simp
   replace HX:=HX.box [.bool true,.int .i64 l.data,.slice A4 lc.refs.length k4] 68
   have hb:=below_alloc w3 (.cells #[.bool true,.int .i64 l.data,.slice A4 lc.refs.length k4] 68)
   refine hK.out _ _ (.inr (⟨keept x0 hb,keept y1 hb,keept y2 hb⟩)) ?_
   clear hK K
   with_reducible refine po_last ?_ (fun K hK=>?_)
   ·(go_simp;done)
   refine wp_pushCO (c:=lc) (.tmp 32) (.tmp 40) rfl HX 3 1 rfl rfl rfl rfl rfl (by rw[<-e1.out,<-e2.out];exact (HX.holds 0 _ rfl).2) (by omega) ?_
   intro A5 e5 w5 HZ
   simp only[lsz,List.eraseIdx_cons_succ,List.eraseIdx_cons_zero]at HZ
   obtain⟨u0,u1,uf,-⟩:=HZ.box2 3 rfl
   obtain⟨y0,y1,y2,-,-,-⟩:=HZ.box3 1 rfl
   refine hK.out _ _ (.inr (⟨u0,y1,y2⟩)) ?_
   clear hK K
   repeat first|(with_reducible apply po_take;(·(go_simp;done));(·(intro w' hS';(try dsimp only at hS');go_simp;try with_reducible rfl));simp only[lpa])|(with_reducible apply po_skip;(·(go_simp;done));simp only[lpa])
   with_reducible refine po_last ?_ (fun K hK=>?_)
   ·(go_simp;done)
   replace HZ:=(HZ.putBox 3 rfl 0 (.slice A5 (X++[lc]).length e5)).drop 2
   simp only[lsz,List.drop_succ_cons,List.drop_zero]at HZ
   have e9:(X++[lc]).length=X.length+1:=by simp
   rw[e9,<-hT]at HZ
   have HS:=hid HZ
   clear HZ HX H
   go_simp
   refine hK.out _ _ (.inl rfl) ?_
   clear hK K
   refine po_done ?_
   clear x0 x1 xf y0 y1 y2 u0 u1 uf hT e1 e2
   go_wp2
   go_roundw
   case rel=>exact⟨k+1,_,_,by go_num,by omega,HS.out⟩
   case measure=>simp[intOf];omega
  ·rw[List.take_of_length_le (by omega)]at H
   obtain⟨C1,e1,rfl,-⟩:=H.formC 0 rfl
   obtain⟨x0,x1,-,-⟩:=H.box2 1 rfl
   obtain⟨y0,y1,y2,y3⟩:=H.box2 4 rfl
   have R2:=(H.putBox 4 rfl 0 (.slice C1 (o.map (copyCel h o)).length e1)).putBox 4 rfl 1 (.slice A3 R.length k3)
   simp only[lnm]at R2
   obtain⟨z0,z1,-,-⟩:=R2.box2 4 rfl
   have HR:=hid R2
   clear R2 H
   generalize hX:o.map (copyCel h o)=X at *
   go_wp2
   refine bodyPost_ret (v:=.agg #[.slice C1 X.length e1,.slice A3 R.length k3]) (by simp[results,Tryz.results171,go_sem,z0,z1]) rfl ?_
   unfold gath
   rw[<-HRg.out,hX]
   exact HR.out.toH 0 2 rfl rfl
set_option maxHeartbeats 3200000 in
set_option maxRecDepth 20000 in
theorem implCopyHeap_any (w:World) (B:Nat) (v:Value) (h:Hp) (hh:RdH w B v h) (hok:heapOk h=true):
  Calls Tryz.prog 170 #[v] w (MadeH w (mCopy h)):=by
 have hh':=hh.top
 obtain⟨D,m,d,D',m',d',rfl,hC,hR⟩:=hh.top
 have HOk:=hid hok
 have hlo:(ordH h).length<=40:=by have:=ordH_len hok;have:=(heapOk_small hok).1;omega
 have HNd:=hid (ordH_nodup h)
 have HMem:Hid (∀ c,c∈ordH h ↔ RchI h c):=hid fun c=>mem_ordH hok
 rw[mCopy_yes hok]
 obtain⟨o,hoe⟩:∃ o,o=ordH h:=⟨_,rfl⟩
 rw[<-hoe]at hlo HNd HMem⊢
 have HOe:=hid hoe
 clear hok hoe
 have H1:=((Owns.nil w).box [.slice D m d,.slice D' m' d'] 29).box [.slice none 0 0,.slice none 0 0] 29
 simp only[lnm]at H1
 obtain⟨a0,a1,-,-⟩:=H1.box2 1 rfl
 go_enter Tryz.func170,Tryz.ntmps170
 go_wp2_with fail
 refine (heapValid_any _ _ _ h (hh'.below H1.below)).mono ?_
 rintro e w1 ⟨rfl,hb1⟩
 rw[HOk.out]
 have H2:=H1.call hb1
 clear H1 hb1 a0 a1
 go_wp2_with fail
 have HX:=H2.drew
 have H0:=hid H2
 clear H2
 obtain⟨b0,b1,-,-⟩:=HX.box2 1 rfl
 refine wp_region_tree (fun w'=>w'.cell? ⟨w.heap.size,0,none⟩=some (.slice D m d)/\w'.cell? ⟨w.heap.size,1,none⟩=some (.slice D' m' d')) 4 [] (.take 0 (.take 1 (.alt 2 (.alt 3 (.alt 4 (.done) (.stop)) (.stop)) (.stop)))) (by kernel_rfl) (by kernel_rfl) (by kernel_rfl) (⟨b0,b1⟩) ?_
 simp only[fillT,lgz,Nat.reduceBEq]
 repeat first|(with_reducible apply po_take;(·(go_simp;done));(·(intro w' hS';(try dsimp only at hS');go_simp;try with_reducible rfl));simp only[lpa])|(with_reducible apply po_skip;(·(go_simp;done));simp only[lpa])
 with_reducible refine po_last ?_ (fun K hK=>?_)
 ·(go_simp;done)
 go_simp
 refine (metOrder_any _ _ _ h (hh'.below HX.below) HOk.out).mono ?_
 rintro e w2 ⟨v2,rfl,ho,hb⟩
 rw[<-HOe.out]at ho
 replace HX:=HX.madeI ho hb
 clear b0 b1 ho hb
 obtain⟨O,kO,rfl,-⟩:=HX.formI 0 rfl
 obtain⟨b0,b1,-,-⟩:=HX.box2 2 rfl
 refine hK.out _ _ (.inr (⟨b0,b1⟩)) ?_
 clear hK K
 with_reducible refine po_last ?_ (fun K hK=>?_)
 ·(go_simp;done)
 go_simp
 refine (gathered_any _ _ _ _ h _ _ _ o (hh'.below HX.below) (HX.owI 0 rfl).rdI HOk.out HNd.out hlo HMem.out).mono ?_
 rintro e w3 ⟨v3,rfl,ho,hb⟩
 obtain⟨Z,hZ⟩:∃ Z,Z=gath h o:=⟨_,rfl⟩
 rw[<-hZ]at ho
 have HZe:=hid hZ
 clear hZ
 obtain⟨cv,rvs,rv,rfl,HY⟩:=HX.madeH ho hb
 clear b0 b1 ho hb HX
 have HX:=HY
 clear HY
 obtain⟨C,kC,rfl,-⟩:=HX.formC 0 rfl
 obtain⟨R,kR,rfl,-⟩:=HX.formI 1 rfl
 obtain⟨b0,b1,-,-⟩:=HX.box2 4 rfl
 refine hK.out _ _ (.inr (⟨b0,b1⟩)) ?_
 clear hK K
 with_reducible refine po_last ?_ (fun K hK=>?_)
 ·(go_simp;done)
 obtain⟨y0,y1,y2,y3⟩:=HX.box2 3 rfl
 go_simp
 have HZ:=(HX.putBox 3 rfl 0 (.slice C Z.cells.length kC)).putBox 3 rfl 1 (.slice R Z.roots.length kR)
 simp only[lnm]at HZ
 refine hK.out _ _ (.inl rfl) ?_
 clear hK K
 refine po_done ?_
 obtain⟨z0,z1,-,-⟩:=HZ.box2 3 rfl
 have HS:Hid (MadeH w (gath h o) (.returned (.agg #[.slice C Z.cells.length kC,.slice R Z.roots.length kR])) _):=hid (by rw[<-HZe.out];exact HZ.toH 0 1 rfl rfl)
 clear HX HZ H0 b0 b1 y0 y1 y2 y3
 go_wp2
 exact bodyPost_ret (by simp[results,Tryz.results170,go_sem,z0,z1]) rfl HS.out
set_option maxHeartbeats 6400000 in
set_option maxRecDepth 20000 in
theorem runMovingCopy_any (w:World) (B:Nat) (A:Option Addr) (n c:Nat) (cs:List Cmd) (hr:RdQ w B A n c cs) (LI:Int):
  Calls Tryz.prog 169 #[.slice A n c,.int .i64 LI,.func (.func 170) #[] #[]] w (MadeHBl w (mRunCpH mCopy cs LI) (mRunCpB mCopy cs LI)):=by
 have hr:=hr.top
 obtain rfl:=hr.len
 have hm:=Nat.le_trans hr.cap hr.mx
 unfold maxLen at hm
 have H:=(Owns.nil w).box [.slice none 0 0,.slice none 0 0] 29
 go_enter Tryz.func169,Tryz.ntmps169
 go_wp2_with fail
 refine (implCommandsValid_any _ _ _ _ _ cs (hr.below H.below)).mono ?_
 rintro e w1 ⟨rfl,hb⟩
 replace H:=H.call hb
 clear hb
 obtain⟨y0,y1,y2,y3⟩:=H.box2 0 rfl
 cases hc:cmdsOk cs
 ·have HF1:=hid (cpH_no1 (mv:=mCopy) (LI:=LI) hc)
  have HF2:=hid (cpB_no1 (mv:=mCopy) (LI:=LI) hc)
  clear hc
  have HZ:=(((H.putBox 0 rfl 0 (.slice none 0 0)).putBox 0 rfl 1 (.slice none 0 0)).noInts).noCells
  simp only[lnm]at HZ
  obtain⟨z0,z1,-,-⟩:=HZ.box2 2 rfl
  have HS:Hid (MadeHBl w (mRunCpH mCopy cs LI) (mRunCpB mCopy cs LI) (.returned (.tuple #[.agg #[.slice none 0 0,.slice none 0 0],.bool false])) _):=hid (by rw[HF1.out,HF2.out];exact⟨_,[],_,rfl,HZ.take 2⟩)
  clear HZ H
  go_wp2
  exact bodyPost_ret (by simp[results,Tryz.results169,go_sem,z0,z1]) rfl HS.out
 go_wp2_with fail
 refine (isLimit_any LI _).mono ?_
 rintro e w2 ⟨rfl,hw⟩
 obtain rfl:=hw
 cases hl:inR LI 1 40
 ·have HF1:=hid (cpH_no2 (mv:=mCopy) (cs:=cs) hl)
  have HF2:=hid (cpB_no2 (mv:=mCopy) (cs:=cs) hl)
  clear hc hl
  have HZ:=(((H.putBox 0 rfl 0 (.slice none 0 0)).putBox 0 rfl 1 (.slice none 0 0)).noInts).noCells
  simp only[lnm]at HZ
  obtain⟨z0,z1,-,-⟩:=HZ.box2 2 rfl
  have HS:Hid (MadeHBl w (mRunCpH mCopy cs LI) (mRunCpB mCopy cs LI) (.returned (.tuple #[.agg #[.slice none 0 0,.slice none 0 0],.bool false])) _):=hid (by rw[HF1.out,HF2.out];exact⟨_,[],_,rfl,HZ.take 2⟩)
  clear HZ H
  go_wp2
  exact bodyPost_ret (by simp[results,Tryz.results169,go_sem,z0,z1]) rfl HS.out
 obtain⟨q1,q2⟩:=inR_iff.1 hl
 obtain⟨L,rfl⟩:=Int.eq_ofNat_of_zero_le (show 0<=LI by omega)
 have hL1:1<=L:=by omega
 have hL2:L<=40:=by omega
 have HA:=hid (cmdsOk_all hc)
 obtain⟨RR,hRR⟩:∃ r,r=runCp mCopy L emptyH cs:=⟨_,rfl⟩
 have HF1:Hid (mRunCpH mCopy cs (L:Int)=RR.1):=hid (by rw[cpH_yes hc hL1 hL2,hRR])
 have HF2:Hid (mRunCpB mCopy cs (L:Int)=RR.2):=hid (by rw[cpB_yes hc hL1 hL2,hRR])
 have HR0:Hid (runCp mCopy L emptyH (cs.drop 0)=RR):=hid (by rw[hRR,List.drop_zero])
 clear hc hl q1 q2 hRR
 go_wp2_with fail
 refine (implEmptyHeap_any _).mono ?_
 rintro e w3 ⟨cv,rvs,rv,rfl,K⟩
 replace K:=H.merge K
 simp only[lca]at K
 obtain⟨C,kC,rfl,-⟩:=K.formC 0 rfl
 obtain⟨R,kR,rfl,-⟩:=K.formI 1 rfl
 clear H y0 y1 y2 y3
 have H3:=K.box [.slice C emptyH.cells.length kC,.slice R emptyH.roots.length kR] 29
 clear K
 go_wp2_with fail
 go_loopw [23] (fun i wr=>∃ (k:Nat) (C R:Option Addr) (kC kR:Nat) (rvs:List Value) (h:Hp),i=.int .i64 k/\k<=cs.length/\Hid (runCp mCopy L h (cs.drop k)=RR)/\Hid (Good h)/\Owns w.heap.size w wr [.box w3.heap.size [.slice C h.cells.length kC,.slice R h.roots.length kR] 29,.cells (.slice C h.cells.length kC) rvs h.cells,.ints (.slice R h.roots.length kR) h.roots,.box w.heap.size [.slice none 0 0,.slice none 0 0] 29]) (fun i _=>cs.length - (intOf i).toNat)
 case atStart=>exact⟨0,C,R,kC,kR,rvs,emptyH,rfl,Nat.zero_le _,HR0,hid emptyH_good,H3⟩
 case round =>
  clear H3 HR0
  obtain⟨k,C,R,kC,kR,rvs,h,rfl,hk,HR,GG,H⟩:=hrel
  obtain⟨x0,x1,x2,x3⟩:=H.box2 0 rfl
  by_cases hlt:k<cs.length
  ·obtain⟨b,o,p,rfl,hbb,hx,q1,q2,q3,q4⟩:=hr.at_ hlt
   have HP:Hid (cmdOk p=true):=hid (HA.out p (List.mem_of_getElem? hx.out))
   have g1:=H.ro q1 hbb
   have g2:=H.ro q2 hbb
   have g3:=H.ro q3 hbb
   have g4:=H.ro q4 hbb
   have H0:=H.box [.int .i64 p.op,.int .i64 p.a,.int .i64 p.b,.int .i64 p.c] 79
   clear H x0 x1 x2 x3
   obtain⟨x0,x1,x2,x3⟩:=H0.box2 1 rfl
   obtain⟨b0,b1,b2,b3,-,-,-,-⟩:=box4 H0 0 rfl
   by_cases hm:p.op=1/\L<=h.cells.length
   rotate_left
   ·have HE:Hid (runCp mCopy L (mStep h p) (cs.drop (k+1))=RR):=hid (runCp_go hx HR.out hm)
    have HTG:Hid (Good (mStep h p)):=hid (mStep_good GG.out HP.out)
    clear HR
    by_cases h1:p.op=1
    ·have k3:(p.op == 1)=true:=by simp[h1]
     have k4:¬ (L:Int)<=(h.cells.length:Int):=by omega
     clear h1 hm
     go_wp2_with fail
     refine (implStepHeap_any _ _ _ h (H0.rdH 2 3 rfl rfl) p GG.out HP.out).mono ?_
     rintro e w5 ⟨cv,rvs',rv,rfl,K⟩
     replace K:=H0.merge K
     simp only[lca]at K
     obtain⟨T,hT⟩:∃ T,T=mStep h p:=⟨_,rfl⟩
     generalize stepOk h p=tb at *
     rw[<-hT]at K HE HTG
     clear hT H0 x0 x1 x2 x3 b0 b1 b2 b3
     obtain⟨C',kC',rfl,-⟩:=K.formC 0 rfl
     obtain⟨R',kR',rfl,-⟩:=K.formI 1 rfl
     obtain⟨x0,x1,x2,x3⟩:=K.box2 3 rfl
     have H7:=((K.putBox 3 rfl 0 (.slice C' T.cells.length kC')).putBox 3 rfl 1 (.slice R' T.roots.length kR')).places [3,0,1,6] (by decide) (by simp)
     simp only[lfm,lsz]at H7
     clear K
     go_wp2_with fail
     go_roundw
     case rel=>exact⟨k+1,C',R',kC',kR',rvs',T,by go_num,by omega,HE,HTG,H7⟩
     case measure=>simp[intOf];omega
    ·have k3:(p.op == 1)=false:=by simp[h1]
     clear h1 hm
     go_wp2_with fail
     refine (implStepHeap_any _ _ _ h (H0.rdH 2 3 rfl rfl) p GG.out HP.out).mono ?_
     rintro e w5 ⟨cv,rvs',rv,rfl,K⟩
     replace K:=H0.merge K
     simp only[lca]at K
     obtain⟨T,hT⟩:∃ T,T=mStep h p:=⟨_,rfl⟩
     generalize stepOk h p=tb at *
     rw[<-hT]at K HE HTG
     clear hT H0 x0 x1 x2 x3 b0 b1 b2 b3
     obtain⟨C',kC',rfl,-⟩:=K.formC 0 rfl
     obtain⟨R',kR',rfl,-⟩:=K.formI 1 rfl
     obtain⟨x0,x1,x2,x3⟩:=K.box2 3 rfl
     have H7:=((K.putBox 3 rfl 0 (.slice C' T.cells.length kC')).putBox 3 rfl 1 (.slice R' T.roots.length kR')).places [3,0,1,6] (by decide) (by simp)
     simp only[lfm,lsz]at H7
     clear K
     go_wp2_with fail
     go_roundw
     case rel=>exact⟨k+1,C',R',kC',kR',rvs',T,by go_num,by omega,HE,HTG,H7⟩
     case measure=>simp[intOf];omega
   obtain⟨h1,hlen⟩:=hm
   have k3:(p.op == 1)=true:=by simp[h1]
   have k4:(L:Int)<=(h.cells.length:Int):=by omega
   have HST:=hid (fun h3=>runCp_stop hx HR.out h1 hlen h3)
   have HMV:=hid (fun h3=>runCp_moved hx HR.out h1 hlen h3)
   have GX:=hid (good_iff.1 (copy_mover.ok _ (good_iff.2 GG.out)))
   clear HR h1 hlen
   go_wp2_with fail
   refine (implCopyHeap_any _ _ _ h (H0.rdH 2 3 rfl rfl) (good_iff.2 GG.out)).mono ?_
   rintro e w4 ⟨v1,rfl,ho,hb⟩
   obtain⟨cv,rvs',rv,rfl,K⟩:=H0.madeH ho hb
   obtain⟨X,hX⟩:∃ X,X=mCopy h:=⟨_,rfl⟩
   rw[<-hX]at K HST HMV GX
   clear ho hb hX H0 x0 x1 x2 x3 g1 g2 g3 g4 b0 b1 b2 b3
   obtain⟨C,kC,rfl,-⟩:=K.formC 0 rfl
   obtain⟨R,kR,rfl,-⟩:=K.formI 1 rfl
   obtain⟨x0,x1,x2,x3⟩:=K.box2 3 rfl
   have H0:=((K.putBox 3 rfl 0 (.slice C X.cells.length kC)).putBox 3 rfl 1 (.slice R X.roots.length kR)).places [2,3,0,1,6] (by decide) (by simp)
   simp only[lfm,lsz]at H0
   clear K
   by_cases hs:L<=X.cells.length
   ·have HE:=hid (HST.out hs)
    have k5:(L:Int)<=(X.cells.length:Int):=by omega
    obtain⟨v0,v1,-,-⟩:=H0.box2 1 rfl
    obtain⟨y0,y1,y2,y3⟩:=H0.box2 4 rfl
    have HZ:=(H0.putBox 4 rfl 0 (.slice C X.cells.length kC)).putBox 4 rfl 1 (.slice R X.roots.length kR)
    simp only[lnm]at HZ
    obtain⟨z0,z1,-,-⟩:=HZ.box2 4 rfl
    obtain⟨z2,-,-,-⟩:=(H0.putBox 4 rfl 0 (.slice C X.cells.length kC)).box2 4 rfl
    have HS:Hid (MadeHBl w (mRunCpH mCopy cs (L:Int)) (mRunCpB mCopy cs (L:Int)) (.returned (.tuple #[.agg #[.slice C X.cells.length kC,.slice R X.roots.length kR],.bool false])) _):=hid (by rw[HF1.out,HF2.out,HE.out];exact⟨_,rvs',_,rfl,HZ.order [2,3] (by decide) rfl⟩)
    clear H0 HZ
    go_wp2
    exact bodyPost_ret (by simp[results,Tryz.results169,go_sem,z0,z1,z2]) rfl HS.out
   ·have HE:Hid (runCp mCopy L (mStep X p) (cs.drop (k+1))=RR):=hid (HMV.out hs)
    have HTG:Hid (Good (mStep X p)):=hid (mStep_good GX.out HP.out)
    have k5:¬ (L:Int)<=(X.cells.length:Int):=by omega
    clear HST HMV hs
    obtain⟨v0,v1,-,-⟩:=H0.box2 1 rfl
    obtain⟨b0,b1,b2,b3,-,-,-,-⟩:=box4 H0 0 rfl
    go_wp2_with fail
    refine (implStepHeap_any _ _ _ X (H0.rdH 2 3 rfl rfl) p GX.out HP.out).mono ?_
    rintro e w5 ⟨cv,rvs',rv,rfl,K⟩
    replace K:=H0.merge K
    simp only[lca]at K
    obtain⟨T,hT⟩:∃ T,T=mStep X p:=⟨_,rfl⟩
    generalize stepOk X p=tb at *
    rw[<-hT]at K HE HTG
    clear hT H0 v0 v1 x0 x1 x2 x3 b0 b1 b2 b3
    obtain⟨C',kC',rfl,-⟩:=K.formC 0 rfl
    obtain⟨R',kR',rfl,-⟩:=K.formI 1 rfl
    obtain⟨x0,x1,x2,x3⟩:=K.box2 3 rfl
    have H7:=((K.putBox 3 rfl 0 (.slice C' T.cells.length kC')).putBox 3 rfl 1 (.slice R' T.roots.length kR')).places [3,0,1,6] (by decide) (by simp)
    simp only[lfm,lsz]at H7
    clear K
    go_wp2_with fail
    go_roundw
    case rel=>exact⟨k+1,C',R',kC',kR',rvs',T,by go_num,by omega,HE,HTG,H7⟩
    case measure=>simp[intOf];omega
  ·have HE:=hid (runCp_out (by omega) HR.out)
   obtain⟨y0,y1,y2,y3⟩:=H.box2 3 rfl
   have HZ:=(H.putBox 3 rfl 0 (.slice C h.cells.length kC)).putBox 3 rfl 1 (.slice R h.roots.length kR)
   simp only[lnm]at HZ
   obtain⟨z0,z1,-,-⟩:=HZ.box2 3 rfl
   obtain⟨z2,-,-,-⟩:=(H.putBox 3 rfl 0 (.slice C h.cells.length kC)).box2 3 rfl
   have HS:Hid (MadeHBl w (mRunCpH mCopy cs (L:Int)) (mRunCpB mCopy cs (L:Int)) (.returned (.tuple #[.agg #[.slice C h.cells.length kC,.slice R h.roots.length kR],.bool true])) _):=hid (by rw[HF1.out,HF2.out,HE.out];exact⟨_,rvs,_,rfl,HZ.order [1,2] (by decide) rfl⟩)
   clear H HZ
   go_wp2
   exact bodyPost_ret (by simp[results,Tryz.results169,go_sem,z0,z1,z2]) rfl HS.out
set_option maxHeartbeats 1600000 in
theorem implRunCopy_any (w:World) (B:Nat) (A:Option Addr) (n c:Nat) (cs:List Cmd) (hr:RdQ w B A n c cs) (LI:Int):
  Calls Tryz.prog 168 #[.slice A n c,.int .i64 LI] w (MadeHBl w (mRunCpH mCopy cs LI) (mRunCpB mCopy cs LI)):=by
 have hr:=hr.top
 have H:=(Owns.nil w).box [.slice none 0 0,.slice none 0 0] 29
 go_enter Tryz.func168,Tryz.ntmps168
 go_wp2_with fail
 refine (runMovingCopy_any _ _ _ _ _ cs (hr.below H.below) LI).mono ?_
 rintro e w1 ⟨cv,rvs,rv,rfl,K⟩
 replace K:=H.merge K
 simp only[lca]at K
 obtain⟨X,hX⟩:∃ X,X=mRunCpH mCopy cs LI:=⟨_,rfl⟩
 obtain⟨tb,htb⟩:∃ b,b=mRunCpB mCopy cs LI:=⟨_,rfl⟩
 rw[<-hX]at K
 rw[<-htb]
 have HX:=hid hX
 have HT:=hid htb
 clear hX htb H
 obtain⟨C,kC,rfl,-⟩:=K.formC 0 rfl
 obtain⟨R,kR,rfl,-⟩:=K.formI 1 rfl
 obtain⟨y0,y1,y2,y3⟩:=K.box2 2 rfl
 have HZ:=(K.putBox 2 rfl 0 (.slice C X.cells.length kC)).putBox 2 rfl 1 (.slice R X.roots.length kR)
 simp only[lnm]at HZ
 obtain⟨z0,z1,-,-⟩:=HZ.box2 2 rfl
 obtain⟨z2,-,-,-⟩:=(K.putBox 2 rfl 0 (.slice C X.cells.length kC)).box2 2 rfl
 have HS:Hid (MadeHBl w (mRunCpH mCopy cs LI) (mRunCpB mCopy cs LI) (.returned (.tuple #[.agg #[.slice C X.cells.length kC,.slice R X.roots.length kR],.bool tb])) _):=hid (by rw[<-HX.out,<-HT.out];exact⟨_,rvs,_,rfl,HZ.take 2⟩)
 clear K HZ
 go_wp2
 exact bodyPost_ret (by simp[results,Tryz.results168,go_sem,z0,z1,z2]) rfl HS.out
theorem rv1_ord {cs:List Cel}{fr:List Int}{st:List Bool × List Int}{r:Int}(h:RI cs fr st) (hr:0<=r->Rch cs (usedN cs) fr r.toNat):(rv1 st r).2=ord1 st.2 r:=by
 unfold rv1 ord1
 by_cases h0:0<=r
 ·have hlt:=usedN_lt (hr h0).inS
  rw[<-h.len]at hlt
  cases hb:st.1[r.toNat] with
  | false =>
   have e:st.1[r.toNat]?=some false:=by rw[List.getElem?_eq_getElem hlt,hb]
   have hn:r ∉ st.2:=fun hm=>by
    have:=(h.mem r hm).2
    rw[e]at this;cases this
   rw[if_pos ⟨h0,e⟩,if_pos ⟨h0,hn⟩]
  | true =>
   have e:st.1[r.toNat]?=some true:=by rw[List.getElem?_eq_getElem hlt,hb]
   have hm:r∈st.2:=by have:=h.back _ e;rwa [Int.toNat_of_nonneg h0]at this
   rw[if_neg (by rintro ⟨-,k⟩;rw[e]at k;cases k),if_neg (by rintro ⟨-,k⟩;exact k hm)]
 ·rw[if_neg (by omega),if_neg (by omega)]
theorem rvs_ord {cs:List Cel}{fr:List Int}:∀ (rs:List Int) (st:List Bool × List Int),RI cs fr st->(∀ r∈rs,0<=r->Rch cs (usedN cs) fr r.toNat)->(rvs st rs).2=ordL st.2 rs
 | [],st,_,_=>rfl
 | r::rs,st,h,hr=>by
  show (rvs (rv1 st r) rs).2=ordL (ord1 st.2 r) rs
  rw[rvs_ord rs _ (h.one (hr r (by simp))).1 fun x hx=>hr x (by simp[hx]),rv1_ord h (hr r (by simp))]
theorem oj_start {h:Hp}(h0:heapOk h=true):(rvs (List.replicate h.cells.length false,[]) h.roots).2=ordL [] h.roots:=
 rvs_ord h.roots _ (RI.start h.cells h.roots) fun r hr hp=>.base hr hp (leadsB_used ((heapOk_leads h0).1 r hr) hp)
theorem oj_step {h:Hp}{st:List Bool × List Int}{k:Nat}{x:Int}{l:Cel}(hv:∀ r∈l.refs,leadsB h.cells r=true) (hJ:RJ h.cells h.roots st k) (hx:st.2[k]?=some x) (hl:h.cells[x.toNat]?=some l) (he:st.2=ordS h.cells k (ordL [] h.roots)):(rvs st l.refs).2=ordS h.cells (k+1) (ordL [] h.roots):=by
 rw[rvs_ord l.refs st hJ.toRI (rj_rch hJ hx hl hv),he]
 rw[he]at hx
 rw[ordS_succ (hid hx)]
 unfold cel
 rw[List.getD_eq_getElem?_getD,hl];rfl
set_option maxHeartbeats 3200000 in
set_option maxRecDepth 20000 in
theorem l9Order_any (w:World) (B:Nat) (v:Value) (h:Hp) (hh:RdH w B v h) (hok:heapOk h=true):
  Calls Tryz.prog 94 #[v] w (MadeI w (ordH h)):=by
 obtain⟨D,m,d,D',m',d',rfl,hC,hR⟩:=hh.top
 have hm1:=hC.mx;have hcap1:=hC.cap
 have l3:=hC.le1;have l4:=hC.le2
 have hm2:=hR.mx;have hcap2:=hR.cap
 have l1:=RdI.le1 hR;have l2:=RdI.le2 hR
 unfold maxLen at hm1 hm2
 have hn40:h.cells.length<=40:=(heapOk_small hok).1
 have hr4:h.roots.length<=4:=by have:=(heapOk_small hok).2;omega
 have hf:=(heapOk_leads hok).1
 have hv:=(heapOk_leads hok).2
 have HOs:=hid (oj_start hok)
 obtain⟨i0,hi,hz0,hz1,hz2⟩:=info_parts Tryz.infoBool
 have H1:=(Owns.nil w).box [.slice D m d,.slice D' m' d'] 29
 have H1:=H1.litI [] zero_le_maxLen
 obtain⟨a0,a1,-,-⟩:=H1.box2 1 rfl
 clear hok
 go_enter Tryz.func94,Tryz.ntmps94
 go_wp2_with (at_make;refine wpList_make_full _ rfl _ _ _ rfl (w.heap.size+2) 4 i0 (.bool false) 1 Tryz.underlying62 hi hz0 hz1 .i64 .i64 _ _ m rfl rfl rfl rfl (by rw[hz2];omega) (by unfold maxLen;omega) (by simp) ?_)
 intro w1 hown hg
 have H2:=H1.mkB (by simpa using hown) hg
 simp only[lnm]at H2
 obtain rfl:m=h.cells.length:=by omega
 clear H1 hown hg a0 a1
 go_wp2_with fail
 go_loopw [3,5] (fun v i wr=>∃ k:Nat,i=.int .i64 k/\k<=m'/\Owns w.heap.size w wr [.row 4 1 (.slice (some ⟨w.heap.size+2,0,none⟩) h.cells.length h.cells.length) h.cells.length ((rvs (List.replicate h.cells.length false,[]) (h.roots.take k)).1.map Value.bool),.ints v (rvs (List.replicate h.cells.length false,[]) (h.roots.take k)).2,.box w.heap.size [.slice D h.cells.length d,.slice D' m' d'] 29]) (fun _ i _=>m' - (intOf i).toNat)
 case atStart=>exact⟨0,rfl,Nat.zero_le _,H2⟩
 case round =>
  clear H2
  obtain⟨k,rfl,hk,H⟩:=hrel
  obtain⟨a0,a1,-,-⟩:=H.box2 2 rfl
  by_cases hlt:k<m'
  ·obtain⟨b,o,x,rfl,hbb,hx,q1⟩:=RdI.at_ hR hlt
   have hT:=rvs_take (st:=(List.replicate h.cells.length false,[])) hx
   have hI:=(RI.many (fr:=h.roots) (h.roots.take k) _ (RI.start h.cells h.roots) fun r hr h0=>.base (List.mem_of_mem_take hr) h0 (leadsB_used (hf r (List.mem_of_mem_take hr)) h0)).1
   have hlx:=hf x (List.mem_of_getElem? hx.out)
   generalize rvs (List.replicate h.cells.length false,[]) (h.roots.take k)=st at *
   obtain⟨bs,ls⟩:=st
   have g1:=H.ro q1 hbb
   obtain⟨C6,k6,rfl,-⟩:=H.formI 1 rfl
   have hlen:ls.length<=1048576:=by have:=hI.room;simp only at this;omega
   simp only at H
   by_cases c0:x<0
   ·have HT:Hid (rv1 (bs,ls) x=(bs,ls)):=hid (by unfold rv1;rw[if_neg];simp;omega)
    rw[HT.out]at hT
    have HU:=hid hT
    clear hT
    go_wp2
    go_roundw
    case rel=>exact⟨k+1,by go_num,by omega,by rw[HU.out];exact H⟩
    case measure=>simp[intOf];omega
   obtain⟨q,rfl⟩:=Int.eq_ofNat_of_zero_le (by omega:0<=x)
   have hqm:q<h.cells.length:=by have:=usedN_lt (leadsB_used hlx (by omega));simp at this;omega
   have hqb:q<bs.length:=by have:=hI.len;simp only at this;omega
   obtain⟨y0,yf⟩:=H.elem 0 rfl (j:=q) (u:=.bool bs[q]) (by rw[List.getElem?_map,List.getElem?_eq_getElem hqb];rfl)
   cases hbq:bs[q]
   ·rw[hbq]at y0
    have HT:Hid (rv1 (bs,ls) (q:Int)=(bs.set q true,ls++[(q:Int)])):=hid (by unfold rv1;rw[if_pos];rfl;exact⟨by omega,by rw[<-hbq];exact List.getElem?_eq_getElem hqb⟩)
    rw[HT.out]at hT
    have HU:=hid hT
    have H2:=H.putRow 0 rfl q (.bool true)
    simp only[lsz]at H2
    have e1:(bs.map Value.bool).set q (.bool true)=(bs.set q true).map Value.bool:=by rw[List.map_set]
    rw[e1]at H2
    have g2:=H2.ro q1 hbb
    have H3:=H2.alloc (.cells #[.int .i64 q] 3)
    have hz2:=H2.le
    clear hT hbq e1 c0
    go_wp2_with (at_builtin;go_loud (refine wpList_pushO rfl (.tmp 40) (.tmp 42) rfl H3 1 rfl rfl rfl (rdI_new _ _ _ (by simp)) (by omega) ?_;intro A3 k3 w3 H4))
    simp only[lnm]at H4
    go_roundw
    case rel=>exact⟨k+1,by go_num,by omega,by rw[HU.out];exact H4⟩
    case measure=>simp[intOf];omega
   ·rw[hbq]at y0
    have HT:Hid (rv1 (bs,ls) (q:Int)=(bs,ls)):=hid (by
     unfold rv1;rw[if_neg];rintro ⟨-,e⟩
     rw[List.getElem?_eq_getElem (by simpa using hqb)]at e
     injection e with e;simp[hbq]at e)
    rw[HT.out]at hT
    have HU:=hid hT
    clear hT hbq c0
    go_wp2
    go_roundw
    case rel=>exact⟨k+1,by go_num,by omega,by rw[HU.out];exact H⟩
    case measure=>simp[intOf];omega
  ·have hJ:=rj_start hf
   rw[List.take_of_length_le (by omega)]at H
   have hOs:=HOs.out
   clear HOs
   generalize rvs (List.replicate h.cells.length false,[]) h.roots=st at *
   obtain⟨bs0,ls0⟩:=st
   obtain⟨C6,k6,rfl,-⟩:=H.formI 1 rfl
   have HOs:=hid hOs
   clear hOs
   go_wp2_with fail
   clear a0 a1 hlt hk
   go_loopw [3,7] (fun v i wr=>∃ (k:Nat) (st:List Bool × List Int),i=.int .i64 k/\k<=st.2.length/\Hid (st.2=ordS h.cells k (ordL [] h.roots))/\RJ h.cells h.roots st k/\Owns w.heap.size w wr [.row 4 1 (.slice (some ⟨w.heap.size+2,0,none⟩) h.cells.length h.cells.length) h.cells.length ((st).1.map Value.bool),.ints v (st).2,.box w.heap.size [.slice D h.cells.length d,.slice D' m' d'] 29]) (fun _ i _=>h.cells.length - (intOf i).toNat)
   case atStart=>exact⟨0,(bs0,ls0),rfl,Nat.zero_le _,HOs,hJ,H⟩
   case round =>
    clear H hJ HOs
    obtain⟨k,⟨bs1,ls1⟩,rfl,hk,hE,hJ,H⟩:=hrel
    simp only at hk H hE
    have hlen1:ls1.length<=h.cells.length:=by have:=hJ.room;simp only at this;omega
    obtain⟨C6,k6,rfl,-⟩:=H.formI 1 rfl
    by_cases hlt2:k<ls1.length
    ·obtain⟨g,cc,e0,hc1,hc2,hg1,hg2⟩:=H.rowAt 1 rfl (by omega)
     injection e0 with e0 _ e3
     subst e0 e3
     obtain⟨z0,zf⟩:=H.elem 1 rfl (j:=k) (u:=.int .i64 ls1[k]) (by rw[List.getElem?_map,List.getElem?_eq_getElem hlt2];rfl)
     have hxm:=List.getElem_mem hlt2
     have hlk:ls1[k]?=some ls1[k]:=List.getElem?_eq_getElem hlt2
     generalize ls1[k]=x at *
     obtain⟨x0,hxt⟩:=hJ.mem x hxm
     obtain⟨q,rfl⟩:=Int.eq_ofNat_of_zero_le x0
     have hqm:q<h.cells.length:=by have:=hJ.len;simp only at this hxt;have:=(List.getElem?_eq_some_iff.1 hxt).1;simp at this;omega
     obtain⟨b,o,l,A2,n2,c2,rfl,hbb,hx,q1,q2,q3,hrf⟩:=hC.at_ hqm
     have g3:=H.ro q3 hbb
     obtain⟨a0,a1,-,-⟩:=H.box2 2 rfl
     have hvl:=hv q l hx.out
     have hst:=rj_step hJ hlk (l:=l) (by simpa using hx.out) hvl
     have hrc:=rj_rch hJ hlk (l:=l) (by simpa using hx.out) hvl
     have HES:=hid (oj_step hvl hJ hlk (by simpa using hx.out) hE.out)
     have r1:=RdI.le1 hrf;have r2:=RdI.le2 hrf
     have r3:=hrf.mx;have r4:=hrf.cap
     unfold maxLen at r3
     have HJ:=hid hJ
     have HST:=hid hst
     have i1:(0:Int)<=(k:Int):=by omega
     have i2:(k:Int)<(ls1.length:Int):=by omega
     have i3:(0:Int)<=(q:Int):=by omega
     have i4:(q:Int)<(h.cells.length:Int):=by omega
     clear hlk hxt hJ hst q1 q2 hE
     go_wp2_with fail
     go_quiet (fail)
     rename_i nq _
     have Hq:=H.drewN nq
     clear H z0 zf g3 a0 a1
     generalize wr.drewN nq=wq at *
     go_wp2_with fail
     go_loopw [3,9] (fun v i wr=>∃ j:Nat,i=.int .i64 j/\j<=n2/\Owns w.heap.size w wr [.row 4 1 (.slice (some ⟨w.heap.size+2,0,none⟩) h.cells.length h.cells.length) h.cells.length ((rvs (bs1,ls1) (l.refs.take j)).1.map Value.bool),.ints v (rvs (bs1,ls1) (l.refs.take j)).2,.box w.heap.size [.slice (some ⟨b,o,none⟩) h.cells.length d,.slice D' m' d'] 29]) (fun _ i _=>n2 - (intOf i).toNat)
     case atStart=>exact⟨0,rfl,Nat.zero_le _,Hq⟩
     case round =>
      clear Hq
      obtain⟨j,rfl,hj,H⟩:=hrel
      by_cases hltj:j<n2
      ·obtain⟨b2,o2,x,rfl,hbb2,hx2,p1⟩:=RdI.at_ hrf hltj
       have hT:=rvs_take (st:=(bs1,ls1)) hx2
       have hI:=(RI.many (fr:=h.roots) (l.refs.take j) (bs1,ls1) HJ.out.toRI fun r hr h0=>hrc r (List.mem_of_mem_take hr) h0).1
       have hlx:=hvl x (List.mem_of_getElem? hx2.out)
       generalize rvs (bs1,ls1) (l.refs.take j)=st at *
       obtain⟨bs,ls⟩:=st
       have g1:=H.ro p1 hbb2
       obtain⟨C7,k7,rfl,-⟩:=H.formI 1 rfl
       have hlen:ls.length<=1048576:=by have:=hI.room;simp only at this;omega
       simp only at H
       by_cases c0:x<0
       ·have HT:Hid (rv1 (bs,ls) x=(bs,ls)):=hid (by unfold rv1;rw[if_neg];simp;omega)
        rw[HT.out]at hT
        have HU:=hid hT
        clear hT
        go_wp2
        go_roundw
        case rel=>exact⟨j+1,by go_num,by omega,by rw[HU.out];exact H⟩
        case measure=>simp[intOf];omega
       obtain⟨q',rfl⟩:=Int.eq_ofNat_of_zero_le (by omega:0<=x)
       have hqm:q'<h.cells.length:=by have:=usedN_lt (leadsB_used hlx (by omega));simp at this;omega
       have hqb:q'<bs.length:=by have:=hI.len;simp only at this;omega
       obtain⟨y0,yf⟩:=H.elem 0 rfl (j:=q') (u:=.bool bs[q']) (by rw[List.getElem?_map,List.getElem?_eq_getElem hqb];rfl)
       cases hbq:bs[q']
       ·rw[hbq]at y0
        have HT:Hid (rv1 (bs,ls) (q':Int)=(bs.set q' true,ls++[(q':Int)])):=hid (by unfold rv1;rw[if_pos];rfl;exact⟨by omega,by rw[<-hbq];exact List.getElem?_eq_getElem hqb⟩)
        rw[HT.out]at hT
        have HU:=hid hT
        have H2:=H.putRow 0 rfl q' (.bool true)
        simp only[lsz]at H2
        have e1:(bs.map Value.bool).set q' (.bool true)=(bs.set q' true).map Value.bool:=by rw[List.map_set]
        rw[e1]at H2
        have g2:=H2.ro p1 hbb2
        have H3:=H2.alloc (.cells #[.int .i64 q'] 3)
        have hz2:=H2.le
        clear hT hbq e1 c0
        go_wp2_with (at_builtin;go_loud (refine wpList_pushO rfl (.tmp 81) (.tmp 83) rfl H3 1 rfl rfl rfl (rdI_new _ _ _ (by simp)) (by omega) ?_;intro A3 k3 w3 H4))
        simp only[lnm]at H4
        go_roundw
        case rel=>exact⟨j+1,by go_num,by omega,by rw[HU.out];exact H4⟩
        case measure=>simp[intOf];omega
       ·rw[hbq]at y0
        have HT:Hid (rv1 (bs,ls) (q':Int)=(bs,ls)):=hid (by
         unfold rv1;rw[if_neg];rintro ⟨-,e⟩
         rw[List.getElem?_eq_getElem (by simpa using hqb)]at e
         injection e with e;simp[hbq]at e)
        rw[HT.out]at hT
        have HU:=hid hT
        clear hT hbq c0
        go_wp2
        go_roundw
        case rel=>exact⟨j+1,by go_num,by omega,by rw[HU.out];exact H⟩
        case measure=>simp[intOf];omega
      ·have HK:Hid (k+1<=(rvs (bs1,ls1) l.refs).2.length):=hid (by
        obtain⟨-,-,-,ext,e⟩:=RI.many (fr:=h.roots) l.refs (bs1,ls1) HJ.out.toRI hrc
        rw[e];simp;omega)
       rw[List.take_of_length_le (by omega)]at H
       go_wp2
       go_roundw
       case rel=>exact⟨k+1,_,by go_num,HK.out,HES,HST.out,H⟩
       case measure=>simp[intOf];omega
    ·have hle:(ordS h.cells k (ordL [] h.roots)).length<=k:=by rw[<-hE.out];omega
     have HE:=hid (ordH_end hle (by omega))
     have HE2:Hid (ls1=ordH h):=hid (hE.out.trans HE.out)
     have HO:=hid H
     clear H hJ hle HE hE
     go_wp2
     go_ret
     have H:=HO.out
     have hE:=HE2.out
     subst hE
     exact H.toI 1 rfl
theorem nameI_at {o:List Int}{k:Nat}{r:Int}(hb:∀ i,i<k->o[i]?≠some r) (hk:o[k]?=some r):nameI o r=(k:Int):=by
 obtain⟨hl,he⟩:=List.getElem?_eq_some_iff.1 hk
 have hm:r∈o:=List.mem_of_getElem? hk
 unfold nameI
 rw[if_pos hm]
 have h1:o.idxOf r<=k:=by
  rcases Nat.lt_or_ge k (o.idxOf r) with q|q
  ·have:=List.not_of_lt_findIdx (p:=fun x=>x == r) (xs:=o) q
   rw[he]at this
   simp at this
  ·exact q
 have h2:¬ o.idxOf r<k:=fun q=>by
  have hlt:o.idxOf r<o.length:=by omega
  have:=List.findIdx_getElem (p:=fun x=>x == r) (xs:=o) (w:=hlt)
  refine hb _ q ?_
  rw[List.getElem?_eq_getElem hlt]
  have h3:o[o.idxOf r]=r:=beq_iff_eq.1 this
  rw[h3]
 omega
theorem nameI_none {o:List Int}{r:Int}(hb:∀ i,i<o.length->o[i]?≠some r):nameI o r=-1:=by
 refine nameI_out fun hm=>?_
 obtain⟨i,hi,he⟩:=List.mem_iff_getElem.1 hm
 exact hb i hi (by rw[List.getElem?_eq_getElem hi,he])
set_option maxHeartbeats 1600000 in
theorem l9Name_any (w:World) (B:Nat) (A:Option Addr) (n c:Nat) (o:List Int) (r:Int) (hr:RdI w B A n c o) (hn:n<=1048576):
  Calls Tryz.prog 107 #[.slice A n c,.int .i64 r] w fun e w'=>e=.returned (.int .i64 (nameI o r))/\Below w.heap.size w w':=by
 have hr:=hr.top
 have l1:=RdI.le1 hr;have l2:=RdI.le2 hr
 have H:=Owns.nil w
 go_enter Tryz.func107,Tryz.ntmps107
 go_wp2_with fail
 go_loopw [5] (fun i wr=>∃ k:Nat,i=.int .i64 k/\k<=n/\Hid (∀ i,i<k->o[i]?≠some r)/\Owns w.heap.size w wr []) (fun i _=>n - (intOf i).toNat)
 case atStart=>exact⟨0,rfl,Nat.zero_le _,hid fun i hi=>by omega,H⟩
 case round =>
  clear H
  obtain⟨k,rfl,hk,hb,H⟩:=hrel
  by_cases hlt:k<n
  ·obtain⟨bb,oo,x,rfl,hbb,hx,q1⟩:=RdI.at_ hr hlt
   have q2:=H.ro q1 hbb
   clear q1
   by_cases e:x=r
   ·have HF:Hid (nameI o r=(k:Int)):=hid (nameI_at hb.out (by rw[<-e];exact hx.out))
    have k1:(x == r)=true:=by simp[e]
    have HB:=H.below
    clear H e hb
    go_wp2
    go_ret
    exact⟨ret_i HF.out.symm,HB⟩
   ·have HN:Hid (∀ i,i<k+1->o[i]?≠some r):=hid fun i hi=>by
     by_cases q:i=k
     ·subst q
      rw[hx.out]
      intro h
      injection h with h
      exact e h
     ·exact hb.out i (by omega)
    have k1:(x == r)=false:=by simp[e]
    clear e hb
    go_wp2
    go_roundw
    case rel=>exact⟨k+1,by go_num,by omega,HN,H⟩
    case measure=>simp[intOf];omega
  ·have HF:Hid (nameI o r=-1):=hid (nameI_none fun i hi=>hb.out i (by omega))
   have HB:=H.below
   clear H hb
   go_wp2
   go_ret
   exact⟨ret_i HF.out.symm,HB⟩
theorem copyCel_next {h:Hp}{o o':List Int}{k:Nat}{x:Int}(hx:Hid (o'[k]?=some x)):(o'.take (k+1)).map (copyCel h o)=(o'.take k).map (copyCel h o)++[copyCel h o x]:=by
 rw[take_snoc' hx,List.map_append];rfl
theorem nameI_next {o rs:List Int}{k:Nat}{x:Int}(hx:Hid (rs[k]?=some x)):(rs.take (k+1)).map (nameI o)=(rs.take k).map (nameI o)++[nameI o x]:=by
 rw[take_snoc' hx,List.map_append];rfl
set_option maxHeartbeats 6400000 in
set_option maxRecDepth 20000 in
theorem l15Move_any (w:World) (B B':Nat) (v:Value) (h:Hp) (A:Option Addr) (n c:Nat) (o:List Int) (hh:RdH w B v h) (hr:RdI w B' A n c o) (hl:o.length<=1000) (h3:∀ (c:Nat) (l:Cel),h.cells[c]?=some l->l.refs.length<=1000) (h4:h.roots.length<=1000) (hO:∀ x∈o,0<=x/\x<h.cells.length):
  Calls Tryz.prog 93 #[v,.slice A n c] w (MadeH w (gath h o)):=by
 have hr:=hr.top
 obtain⟨D,m,d,D',m',d',rfl,hC,hR⟩:=hh.top
 have l3:=hC.le1;have l4:=hC.le2
 have l1:=RdI.le1 hr;have l2:=RdI.le2 hr
 have l5:=RdI.le1 hR;have l6:=RdI.le2 hR
 have HOr:Hid (∀ x∈o,0<=x/\x<m):=hid fun x hx=>by have:=hO x hx;omega
 have H3:=hid h3
 clear hO h3
 have H1:=((((Owns.nil w).box [.slice D m d,.slice D' m' d'] 29).box [.slice none 0 0,.slice none 0 0] 29).box [.slice none 0 0,.slice none 0 0] 29).noCells
 simp only[lnm]at H1
 go_enter Tryz.func93,Tryz.ntmps93
 go_wp2_with fail
 go_loopw [6] (fun i wr=>∃ (k:Nat) (cv:Value) (rvs:List Value),i=.int .i64 k/\k<=n/\Owns w.heap.size w wr [.cells cv rvs ((o.take k).map (copyCel h o)),.box (w.heap.size+2) [cv,.slice none 0 0] 29,.box (w.heap.size+1) [.slice none 0 0,.slice none 0 0] 29,.box w.heap.size [.slice D m d,.slice D' m' d'] 29]) (fun i _=>n - (intOf i).toNat)
 case atStart=>exact⟨0,_,_,rfl,Nat.zero_le _,H1⟩
 case round =>
  clear H1
  obtain⟨k,cv,rvs,rfl,hk,H⟩:=hrel
  by_cases hlt:k<n
  ·obtain⟨bo,oo,x,rfl,hbo,hx0,q0⟩:=RdI.at_ hr hlt
   obtain⟨hp0,hp1⟩:=HOr.out x (List.mem_of_getElem? hx0.out)
   obtain⟨q,rfl⟩:=Int.eq_ofNat_of_zero_le hp0
   have hq:q<m:=by omega
   obtain⟨b,ob,l,A2,n2,c2,rfl,hbb,hx,q1,q2,q3,hrf⟩:=hC.at_ hq
   have hf3:=H3.out q l hx.out
   have r1:=RdI.le1 hrf;have r2:=RdI.le2 hrf
   have hT:=copyCel_next (h:=h) (o:=o) hx0
   have hlc:copyCel h o (q:Int)=⟨true,l.data,l.refs.map (nameI o)⟩:=by unfold copyCel;rw[cel_at hx]
   have hlen:((o.take k).map (copyCel h o)).length<=k:=by simp;omega
   have hlen2:k<=((o.take k).map (copyCel h o)).length:=by simp;omega
   generalize (o.take k).map (copyCel h o)=X at *
   generalize copyCel h o (q:Int)=lc at *
   have i3:(0:Int)<=(q:Int):=by omega
   have i4:(q:Int)<(m:Int):=by omega
   clear hp0 hp1 hx0
   go_wp2_with fail
   have HX:=H.drew
   clear H
   obtain⟨a0,a1,-,-⟩:=HX.box2 3 rfl
   have g0:=HX.ro q0 hbo
   have g1:=HX.ro q1 hbb
   have g2:=HX.ro q2 hbb
   have g3:=HX.ro q3 hbb
   clear q0 q1 q2 q3
   refine wp_region_tree (fun w'=>w'.cell? ⟨w.heap.size,0,none⟩=some (.slice (some ⟨b,ob,none⟩) m d)/\w'.cell? ⟨bo,oo+k,none⟩=some (.int .i64 (q:Int))/\w'.cell? ⟨b,ob+q*3,none⟩=some (.bool l.used)/\w'.cell? ⟨b,ob+q*3+1,none⟩=some (.int .i64 l.data)/\w'.cell? ⟨b,ob+q*3+2,none⟩=some (.slice A2 n2 c2)) 9 [] (.take 0 (.take 1 (.take 2 (.take 3 (.take 4 (.take 5 (.take 6 (.take 7 (.alt 8 (.alt 9 (.done) (.stop)) (.stop)))))))))) (by kernel_rfl) (by kernel_rfl) (by kernel_rfl) (⟨a0,g0,g1,g2,g3⟩) ?_
   simp only[fillT,lgz,Nat.reduceBEq]
   repeat first|(with_reducible apply po_take;(·(go_simp;done));(·(intro w' hS';(try dsimp only at hS');go_simp;try with_reducible rfl));simp only[lpa])|(with_reducible apply po_skip;(·(go_simp;done));simp only[lpa])
   with_reducible refine po_last ?_ (fun K hK=>?_)
   ·(go_simp;done)
   go_simp
   have H0:=HX.box [.bool false,.int .i64 0,.slice none 0 0] 68
   have hb:=below_alloc wr.drew (.cells #[.bool false,.int .i64 0,.slice none 0 0] 68)
   refine hK.out _ _ (.inr (⟨keept a0 hb,keept g0 hb,keept g1 hb,keept g2 hb,keept g3 hb⟩)) ?_
   clear hK K
   with_reducible refine po_last ?_ (fun K hK=>?_)
   ·(go_simp;done)
   go_simp
   have H2:=HX.box [.bool l.used,.int .i64 l.data,.slice A2 n2 c2] 68
   refine hK.out _ _ (.inl rfl) ?_
   clear hK K
   refine po_done ?_
   simp only[drew_size]at H2
   have hbc:=(H2.boxLt 0 rfl).1
   clear H0 hb a0 a1 g0 g1 g2 g3 HX
   have H4:=H2.litI [] zero_le_maxLen
   clear H2
   generalize hzz:wr.heap.size=zz at *
   go_wp2_with fail
   go_loopw [8,9] (fun v8 i ws=>∃ j:Nat,i=.int .i64 j/\j<=n2/\Owns w.heap.size w ws [.ints v8 ((l.refs.take j).map (nameI o)),.box zz [.bool l.used,.int .i64 l.data,.slice A2 n2 c2] 68,.cells cv rvs X,.box (w.heap.size+2) [cv,.slice none 0 0] 29,.box (w.heap.size+1) [.slice none 0 0,.slice none 0 0] 29,.box w.heap.size [.slice (some ⟨b,ob,none⟩) m d,.slice D' m' d'] 29]) (fun _ i _=>n2 - (intOf i).toNat)
   case atStart =>
    simp only[lnm]at H4
    simp only[drew_size,hzz]at H4
    exact⟨0,rfl,Nat.zero_le _,H4⟩
   case round =>
    clear H4
    obtain⟨j,rfl,hj,H⟩:=hrel
    obtain⟨Y,hY⟩:∃ Y,Y=(l.refs.take j).map (nameI o):=⟨_,rfl⟩
    rw[<-hY]at H
    obtain⟨E,kE,rfl,-⟩:=H.formI 0 rfl
    obtain⟨y0,y1,y2,-,-,-⟩:=H.box3 1 rfl
    by_cases hlj:j<n2
    ·obtain⟨b2,o2,r,rfl,hbb2,hx2,p1⟩:=RdI.at_ hrf hlj
     have g1:=H.ro p1 hbb2
     have hT2:=nameI_next (o:=o) hx2
     have hle:Y.length<=j:=by rw[hY];simp;omega
     rw[<-hY]at hT2
     clear p1 hx2 hY
     go_wp2_with fail
     refine (l9Name_any _ _ _ _ _ o r (hr.below H.below) (by omega)).mono ?_
     rintro e w3 ⟨rfl,hb⟩
     generalize nameI o r=rn at *
     have H5:=(H.call hb).litI [rn] one_le_maxLen
     clear hb H y0 y1 y2 g1
     simp only[lml]at H5
     go_wp2_with (at_builtin;go_loud (refine wpList_pushO rfl (.tmp 34) (.tmp 42) rfl H5 1 rfl rfl rfl (rdI_new _ _ _ rfl) (by omega) ?_;intro A3 k3 w5 H6;simp only[lsz]at H6;generalize hN:Y++[rn]=N at *))
     have H7:=H6.erase 0
     simp only[List.eraseIdx_cons_zero]at H7
     clear H6
     go_roundw
     case rel=>exact⟨j+1,by go_num,by omega,by rw[hT2];exact H7⟩
     case measure=>simp[intOf];omega
    ·obtain rfl:Y=lc.refs:=by rw[hY,hlc,List.take_of_length_le (by omega)]
     have e3:Hid (true=lc.used):=hid (by rw[hlc])
     have e4:Hid (l.data=lc.data):=hid (by rw[hlc])
     clear hlc hY
     obtain⟨C1,kC1,rfl,-⟩:=H.formC 2 rfl
     have H5:=H.box [.bool true,.int .i64 l.data,.slice E lc.refs.length kE] 68
     obtain⟨z0,z1,zf,zf2⟩:=H.box2 3 rfl
     have HT:=hid hT
     clear H hT r1 r2
     go_wp2_with (at_builtin;go_loud (refine wpList_pushCO (c:=lc) rfl (.tmp 45) (.tmp 50) rfl H5 3 1 rfl rfl rfl rfl rfl (by rw[<-e3.out,<-e4.out];exact (H5.holds 0 _ rfl).2) (by omega) ?_;intro A5 e5 w5 HZ;simp only[lsz,List.eraseIdx_cons_succ,List.eraseIdx_cons_zero]at HZ;generalize hN:X++[lc]=N at *;obtain⟨u0,u1,uf,uf2⟩:=HZ.box2 3 rfl))
     have H6:=(HZ.putBox 3 rfl 0 (.slice A5 N.length e5)).drop 2
     simp only[lsz,List.drop_succ_cons,List.drop_zero]at H6
     clear HZ H5
     go_roundw
     case rel=>exact⟨k+1,_,_,by go_num,by omega,by rw[HT.out];exact H6⟩
     case measure=>simp[intOf];omega
  ·rw[List.take_of_length_le (by omega)]at H
   have HX:=hid (show gath h o=⟨o.map (copyCel h o),h.roots.map (nameI o)⟩ from rfl)
   generalize o.map (copyCel h o)=X at *
   obtain⟨C1,kC1,rfl,-⟩:=H.formC 0 rfl
   have H5:=H.noInts
   clear H
   go_wp2_with fail
   go_loopw [10] (fun i ws=>∃ (j:Nat) (rv:Value),i=.int .i64 j/\j<=m'/\Owns w.heap.size w ws [.ints rv ((h.roots.take j).map (nameI o)),.cells (.slice C1 X.length kC1) rvs X,.box (w.heap.size+2) [.slice C1 X.length kC1,rv] 29,.box (w.heap.size+1) [.slice none 0 0,.slice none 0 0] 29,.box w.heap.size [.slice D m d,.slice D' m' d'] 29]) (fun i _=>m' - (intOf i).toNat)
   case atStart=>exact⟨0,_,rfl,Nat.zero_le _,H5⟩
   case round =>
    clear H5
    obtain⟨j,rv,rfl,hj,H⟩:=hrel
    obtain⟨Y,hY⟩:∃ Y,Y=(h.roots.take j).map (nameI o):=⟨_,rfl⟩
    rw[<-hY]at H
    obtain⟨E,kE,rfl,-⟩:=H.formI 0 rfl
    obtain⟨a0,a1,-,-⟩:=H.box2 4 rfl
    by_cases hlj:j<m'
    ·obtain⟨b2,o2,r,rfl,hbb2,hx2,p1⟩:=RdI.at_ hR hlj
     have hT2:=nameI_next (o:=o) hx2
     have hle:Y.length<=j:=by rw[hY];simp;omega
     rw[<-hY]at hT2
     have HT2:=hid hT2
     clear hY hT2 hx2
     go_wp2_with fail
     have HX:=H.drew
     clear H a0 a1
     obtain⟨x0,x1,xf,xf2⟩:=HX.box2 2 rfl
     obtain⟨a0,a1,-,-⟩:=HX.box2 4 rfl
     have g1:=HX.ro p1 hbb2
     refine wp_region_tree (fun w'=>w'.cell? ⟨w.heap.size+2,1,none⟩=some (.slice E Y.length kE)/\w'.cell? ⟨w.heap.size,1,none⟩=some (.slice (some ⟨b2,o2,none⟩) m' d')/\w'.cell? ⟨b2,o2+j,none⟩=some (.int .i64 r)) 12 [] (.take 0 (.take 1 (.take 2 (.take 3 (.take 4 (.take 5 (.take 6 (.take 7 (.alt 8 (.alt 9 (.alt 10 (.take 11 (.alt 12 (.done) (.stop))) (.stop)) (.stop)) (.stop)))))))))) (by kernel_rfl) (by kernel_rfl) (by kernel_rfl) (⟨x1,a1,g1⟩) ?_
     simp only[fillT,lgz,Nat.reduceBEq]
     repeat first|(with_reducible apply po_take;(·(go_simp;done));(·(intro w' hS';(try dsimp only at hS');go_simp;try with_reducible rfl));simp only[lpa])|(with_reducible apply po_skip;(·(go_simp;done));simp only[lpa])
     with_reducible refine po_last ?_ (fun K hK=>?_)
     ·(go_simp;done)
     go_simp
     refine (l9Name_any _ _ _ _ _ o r (hr.below HX.below) (by omega)).mono ?_
     rintro e w3 ⟨rfl,hb⟩
     replace HX:=HX.call hb
     refine hK.out _ _ (.inr (⟨keept x1 hb,keept a1 hb,keept g1 hb⟩)) ?_
     clear hK K
     replace x1:=keept x1 hb
     replace a1:=keept a1 hb
     replace g1:=keept g1 hb
     generalize nameI o r=rn at *
     with_reducible refine po_last ?_ (fun K hK=>?_)
     ·(go_simp;done)
     go_simp
     have H0:=HX.litI [rn] one_le_maxLen
     have hb2:=below_alloc w3 (.cells #[.int .i64 rn] 3)
     refine hK.out _ _ (.inr (⟨keept x1 hb2,keept a1 hb2,keept g1 hb2⟩)) ?_
     clear hK K
     with_reducible refine po_last ?_ (fun K hK=>?_)
     ·(go_simp;done)
     refine wp_pushO (.tmp 61) (.tmp 69) rfl H0 1 rfl rfl rfl (rdI_new _ _ _ rfl) (by omega) ?_
     intro A5 k5 w5 HZ
     simp only[lsz]at HZ
     generalize hN:Y++[rn]=N at *
     obtain⟨x0,x1,xf,xf2⟩:=HZ.box2 3 rfl
     obtain⟨a0,a1,-,-⟩:=HZ.box2 5 rfl
     have g1:=HZ.ro p1 hbb2
     refine hK.out _ _ (.inr (⟨x1,a1,g1⟩)) ?_
     clear hK K
     repeat first|(with_reducible apply po_take;(·(go_simp;done));(·(intro w' hS';(try dsimp only at hS');go_simp;try with_reducible rfl));simp only[lpa])|(with_reducible apply po_skip;(·(go_simp;done));simp only[lpa])
     with_reducible refine po_last ?_ (fun K hK=>?_)
     ·(go_simp;done)
     go_simp
     have H6:=(HZ.putBox 3 rfl 1 (.slice A5 N.length k5)).drop 1
     simp only[lsz,List.drop_succ_cons,List.drop_zero]at H6
     refine hK.out _ _ (.inl rfl) ?_
     clear hK K
     refine po_done ?_
     clear HZ H0 HX x0 x1 xf xf2 a0 a1 g1 hb2 hb
     go_wp2
     go_roundw
     case rel=>exact⟨j+1,_,by go_num,by omega,by rw[HT2.out];exact H6⟩
     case measure=>simp[intOf];omega
    ·have hYe:h.roots.map (nameI o)=Y:=by rw[hY,List.take_of_length_le (by omega)]
     rw[hYe]at HX
     clear hY hYe
     obtain⟨y0,y1,y2,y3⟩:=H.box2 3 rfl
     obtain⟨x0,x1,xf,xf2⟩:=H.box2 2 rfl
     have HZ:=(H.putBox 3 rfl 0 (.slice C1 X.length kC1)).putBox 3 rfl 1 (.slice E Y.length kE)
     simp only[lnm]at HZ
     obtain⟨z0,z1,-,-⟩:=HZ.box2 3 rfl
     have HS:Hid (MadeH w (gath h o) (.returned (.agg #[.slice C1 X.length kC1,.slice E Y.length kE])) _):=hid (by rw[HX.out];exact HZ.toH 1 0 rfl rfl)
     clear H HZ
     go_wp2
     exact bodyPost_ret (by simp[results,Tryz.results93,go_sem,z0,z1]) rfl HS.out
set_option maxHeartbeats 3200000 in
set_option maxRecDepth 20000 in
theorem specCopyHeap_any (w:World) (B:Nat) (v:Value) (h:Hp) (hh:RdH w B v h) (hok:heapOk h=true):
  Calls Tryz.prog 65 #[v] w (MadeH w (mCopy h)):=by
 have hh':=hh.top
 obtain⟨D,m,d,D',m',d',rfl,hC,hR⟩:=hh.top
 have HOk:=hid hok
 have hlo:(ordH h).length<=40:=by have:=ordH_len hok;have:=(heapOk_small hok).1;omega
 have HNd:=hid (ordH_nodup h)
 have HMem:Hid (∀ c,c∈ordH h ↔ RchI h c):=hid fun c=>mem_ordH hok
 rw[mCopy_yes hok]
 obtain⟨o,hoe⟩:∃ o,o=ordH h:=⟨_,rfl⟩
 rw[<-hoe]at hlo HNd HMem⊢
 have HOe:=hid hoe
 clear hok hoe
 have H1:=((Owns.nil w).box [.slice D m d,.slice D' m' d'] 29).box [.slice none 0 0,.slice none 0 0] 29
 simp only[lnm]at H1
 obtain⟨a0,a1,-,-⟩:=H1.box2 1 rfl
 go_enter Tryz.func65,Tryz.ntmps65
 go_wp2_with fail
 refine (specHeapValid_any _ _ _ h (hh'.below H1.below)).mono ?_
 rintro e w1 ⟨rfl,hb1⟩
 rw[HOk.out]
 have H2:=H1.call hb1
 clear H1 hb1 a0 a1
 go_wp2_with fail
 have HX:=H2.drew
 have H0:=hid H2
 clear H2
 obtain⟨b0,b1,-,-⟩:=HX.box2 1 rfl
 refine wp_region_tree (fun w'=>w'.cell? ⟨w.heap.size,0,none⟩=some (.slice D m d)/\w'.cell? ⟨w.heap.size,1,none⟩=some (.slice D' m' d')) 4 [] (.take 0 (.take 1 (.alt 2 (.alt 3 (.alt 4 (.done) (.stop)) (.stop)) (.stop)))) (by kernel_rfl) (by kernel_rfl) (by kernel_rfl) (⟨b0,b1⟩) ?_
 simp only[fillT,lgz,Nat.reduceBEq]
 repeat first|(with_reducible apply po_take;(·(go_simp;done));(·(intro w' hS';(try dsimp only at hS');go_simp;try with_reducible rfl));simp only[lpa])|(with_reducible apply po_skip;(·(go_simp;done));simp only[lpa])
 with_reducible refine po_last ?_ (fun K hK=>?_)
 ·(go_simp;done)
 go_simp
 refine (l9Order_any _ _ _ h (hh'.below HX.below) HOk.out).mono ?_
 rintro e w2 ⟨v2,rfl,ho,hb⟩
 rw[<-HOe.out]at ho
 replace HX:=HX.madeI ho hb
 clear b0 b1 ho hb
 obtain⟨O,kO,rfl,-⟩:=HX.formI 0 rfl
 obtain⟨b0,b1,-,-⟩:=HX.box2 2 rfl
 refine hK.out _ _ (.inr (⟨b0,b1⟩)) ?_
 clear hK K
 with_reducible refine po_last ?_ (fun K hK=>?_)
 ·(go_simp;done)
 go_simp
 refine (l15Move_any _ _ _ _ h _ _ _ o (hh'.below HX.below) (HX.owI 0 rfl).rdI (by omega) (fun c l hl=>by have:=(refs3 HOk.out hl).1;omega) (by have:=(heapOk_small HOk.out).2;omega) (fun x hx=>by have h1:=(HMem.out x).1 hx;have h2:=reach_lt h1;have h3:=h1.1;omega)).mono ?_
 rintro e w3 ⟨v3,rfl,ho,hb⟩
 obtain⟨Z,hZ⟩:∃ Z,Z=gath h o:=⟨_,rfl⟩
 rw[<-hZ]at ho
 have HZe:=hid hZ
 clear hZ
 obtain⟨cv,rvs,rv,rfl,HY⟩:=HX.madeH ho hb
 clear b0 b1 ho hb HX
 have HX:=HY
 clear HY
 obtain⟨C,kC,rfl,-⟩:=HX.formC 0 rfl
 obtain⟨R,kR,rfl,-⟩:=HX.formI 1 rfl
 obtain⟨b0,b1,-,-⟩:=HX.box2 4 rfl
 refine hK.out _ _ (.inr (⟨b0,b1⟩)) ?_
 clear hK K
 with_reducible refine po_last ?_ (fun K hK=>?_)
 ·(go_simp;done)
 obtain⟨y0,y1,y2,y3⟩:=HX.box2 3 rfl
 go_simp
 have HZ:=(HX.putBox 3 rfl 0 (.slice C Z.cells.length kC)).putBox 3 rfl 1 (.slice R Z.roots.length kR)
 simp only[lnm]at HZ
 refine hK.out _ _ (.inl rfl) ?_
 clear hK K
 refine po_done ?_
 obtain⟨z0,z1,-,-⟩:=HZ.box2 3 rfl
 have HS:Hid (MadeH w (gath h o) (.returned (.agg #[.slice C Z.cells.length kC,.slice R Z.roots.length kR])) _):=hid (by rw[<-HZe.out];exact HZ.toH 0 1 rfl rfl)
 clear HX HZ H0 b0 b1 y0 y1 y2 y3
 go_wp2
 exact bodyPost_ret (by simp[results,Tryz.results65,go_sem,z0,z1]) rfl HS.out
section
open Classical
noncomputable def wTo (h:Hp) (wants:List Int):Nat->Nat->Int
 | 0,c=>if usedN h.cells c then 5 else 0
 | k+1,c=>if reachB h.cells [h.roots.getD k (-1)] c then min (wTo h wants k c) (wants.getD k 0) else wTo h wants k c
abbrev gd (out:List Int) (c:Nat):Int:=out.getD c 0
theorem gd_set {out:List Int}{q c:Nat}{v:Int}(hq:q<out.length):gd (out.set q v) c=if c=q then v else gd out c:=by
 unfold gd
 simp only[List.getD,List.getElem?_set]
 by_cases e:q=c
 ·subst e;simp[hq]
 ·simp[e,Ne.symm e]
def rl (k:Nat) (out:List Int) (r:Int):List Int:=if 0<=r then out.set r.toNat (min (gd out r.toNat) (gd out k)) else out
def relR (k:Nat) (out:List Int) (rs:List Int):List Int:=rs.foldl (rl k) out
structure Wn (h:Hp) (wants:List Int) (out:List Int):Prop where
 len:out.length=h.cells.length
 low:∀ c,c<h.cells.length->wTo h wants 4 c<=gd out c
 free:∀ c,usedN h.cells c=false->gd out c=0
 top:∀ c,gd out c<=5
theorem wTo_le {h:Hp}{wants:List Int}(k c:Nat):wTo h wants (k+1) c<=wTo h wants k c:=by
 rw[wTo];split <;> omega
theorem reach_edge {cs:List Cel}{fr:List Int}{k:Nat}{l:Cel}{r:Int}(hl:cs[k]?=some l) (hr:r∈l.refs) (h0:0<=r) (hu:usedN cs r.toNat=true) (h:reachB cs fr k=true):reachB cs fr r.toNat=true:=by
 simp only[reachB,decide_eq_true_eq]at *
 exact .step h hl hr h0 hu
theorem wTo_edge {h:Hp}{wants:List Int}{k:Nat}{l:Cel}{r:Int}(hl:h.cells[k]?=some l) (hr:r∈l.refs) (h0:0<=r) (hu:usedN h.cells r.toNat=true) (hk:usedN h.cells k=true):∀ j,wTo h wants j r.toNat<=wTo h wants j k
 | 0=>by simp[wTo,hu,hk]
 | j+1=>by
  have ih:=wTo_edge (wants:=wants) hl hr h0 hu hk j
  cases hc:reachB h.cells [h.roots.getD j (-1)] k
  ·have:=wTo_le (h:=h) (wants:=wants) j r.toNat
   have e:wTo h wants (j+1) k=wTo h wants j k:=by rw[wTo,if_neg (by rw[hc];exact Bool.false_ne_true)]
   omega
  ·have e:wTo h wants (j+1) k=min (wTo h wants j k) (wants.getD j 0):=by rw[wTo,if_pos hc]
   have e2:wTo h wants (j+1) r.toNat=min (wTo h wants j r.toNat) (wants.getD j 0):=by rw[wTo,if_pos (reach_edge hl hr h0 hu hc)]
   omega
theorem Wn.goRl {h:Hp}{wants out:List Int}{k:Nat}{l:Cel}{r:Int}(hw:Wn h wants out) (hl:h.cells[k]?=some l) (hr:r∈l.refs) (hk:usedN h.cells k=true) (hv:leadsB h.cells r=true):
  Wn h wants (rl k out r)/\(∀ c,gd (rl k out r) c<=gd out c)/\(0<=r->gd (rl k out r) r.toNat<=gd out k):=by
 unfold rl
 by_cases h0:0<=r
 ·rw[if_pos h0]
  have hu:=leadsB_used hv h0
  have hq:=usedN_lt hu
  have hq':r.toNat<out.length:=by rw[hw.len];exact hq
  have hkl:k<h.cells.length:=(List.getElem?_eq_some_iff.1 hl).1
  have h1:=hw.low _ hq
  have h2:=hw.low _ hkl
  have h3:=wTo_edge (wants:=wants) hl hr h0 hu hk 4
  refine⟨⟨by simp[hw.len],fun c hc=>?_,fun c hc=>?_,fun c=>?_⟩,fun c=>?_,fun _=>?_⟩
  ·rw[gd_set hq']
   split
   ·rename_i e;subst e;omega
   ·exact hw.low c hc
  ·rw[gd_set hq',if_neg (fun e=>by rw[e,hu]at hc;cases hc)]
   exact hw.free c hc
  ·rw[gd_set hq']
   have:=hw.top c
   split
   ·have:=hw.top r.toNat;omega
   ·exact this
  ·rw[gd_set hq']
   split
   ·rename_i e;subst e;omega
   ·exact Int.le_refl _
  ·rw[gd_set hq',if_pos rfl];omega
 ·rw[if_neg h0]
  exact⟨hw,fun c=>Int.le_refl _,fun h=>absurd h h0⟩
theorem Wn.goR {h:Hp}{wants:List Int}{k:Nat}{l:Cel}(hl:h.cells[k]?=some l) (hk:usedN h.cells k=true):∀ (rs out:List Int),(∀ r∈rs,r∈l.refs/\leadsB h.cells r=true)->Wn h wants out →
  Wn h wants (relR k out rs)/\(∀ c,gd (relR k out rs) c<=gd out c)/\(∀ r∈rs,0<=r->gd (relR k out rs) r.toNat<=gd out k)
 | [],out,_,hw=>⟨hw,fun c=>Int.le_refl _,fun r hr=>by simp at hr⟩
 | r::rs,out,hrs,hw=>by
  obtain⟨a1,a2,a3⟩:=hw.goRl hl (hrs r (by simp)).1 hk (hrs r (by simp)).2
  obtain⟨b1,b2,b3⟩:=Wn.goR hl hk rs (rl k out r) (fun x hx=>hrs x (by simp[hx])) a1
  refine⟨b1,fun c=>Int.le_trans (b2 c) (a2 c),fun x hx h0=>?_⟩
  rcases List.mem_cons.1 hx with rfl|hx
  ·exact Int.le_trans (b2 _) (a3 h0)
  ·exact Int.le_trans (b3 x hx h0) (a2 k)
theorem free_refs {h:Hp}(hok:heapOk h=true) {k:Nat}{l:Cel}(hl:h.cells[k]?=some l) (hu:usedN h.cells k=false):l.refs=[]:=by
 have hc:cellOk h.cells l=true:=by
  simp only[heapOk,Bool.and_eq_true,List.all_eq_true]at hok
  exact hok.1.2 l (List.mem_of_getElem? hl)
 have hlu:l.used=false:=by rw[<-usedN_at (hid hl)];exact hu
 rw[cellOk_free hlu]at hc
 simp only[Bool.and_eq_true,decide_eq_true_eq]at hc
 exact List.length_eq_zero_iff.1 hc.2
theorem Wn.cell {h:Hp}{wants:List Int}(hok:heapOk h=true) {k:Nat}{l:Cel}(hl:h.cells[k]?=some l) {out:List Int}(hw:Wn h wants out) (rs:List Int) (hrs:∀ r∈rs,r∈l.refs):
  Wn h wants (relR k out rs)/\(∀ c,gd (relR k out rs) c<=gd out c)/\(∀ r∈rs,0<=r->gd (relR k out rs) r.toNat<=gd out k):=by
 cases hu:usedN h.cells k
 ·have e:=free_refs hok hl hu
  have:rs=[]:=by
   cases rs with
   | nil=>rfl
   | cons r rs=>have:=hrs r (by simp);rw[e]at this;cases this
  subst this
  exact⟨hw,fun c=>Int.le_refl _,fun r hr=>by simp at hr⟩
 ·exact Wn.goR hl hu rs out (fun r hr=>⟨hrs r hr,(heapOk_leads hok).2 k l hl r (hrs r hr)⟩) hw
theorem gd_map {f:Nat->Int}{n c:Nat}(hc:c<n):gd ((List.range n).map f) c=f c:=by
 unfold gd
 simp[List.getD,List.getElem?_range hc]
theorem wTo_mono {h:Hp}{wants:List Int}(c:Nat):∀ j k,j<=k->wTo h wants k c<=wTo h wants j c
 | j,0,hj=>by
   obtain rfl:j=0:=by omega
   exact Int.le_refl _
 | j,k+1,hj=>by
  rcases Nat.lt_or_ge j (k+1) with h1|h1
  ·exact Int.le_trans (wTo_le k c) (wTo_mono c j k (by omega))
  ·obtain rfl:j=k+1:=by omega
   exact Int.le_refl _
theorem Wn.start {h:Hp}{wants:List Int}:Wn h wants ((List.range h.cells.length).map (wTo h wants 0)):=by
 refine⟨by simp,fun c hc=>?_,fun c hc=>?_,fun c=>?_⟩
 ·rw[gd_map hc];exact wTo_mono c 0 4 (by omega)
 ·rcases Nat.lt_or_ge c h.cells.length with h1|h1
  ·rw[gd_map h1,wTo,if_neg (by rw[hc];exact Bool.false_ne_true)]
  ·unfold gd;simp[List.getD,h1]
 ·rcases Nat.lt_or_ge c h.cells.length with h1|h1
  ·rw[gd_map h1,wTo];split <;> omega
  ·unfold gd;simp[List.getD,h1]
end
section
section
variable {cs:List Cel} {rs:List Int} {k:Nat} {l:Cel} {r:Int} {h:Hp}
end
end
theorem hasR {cs:List Cel}{fr:List Int}(h64:cs.length<=64) (i:Nat):hasB (closM cs (usedM cs) fr) (i:Int)=reachB cs fr i:=by
 unfold hasB
 rw[closM_used h64];simp
theorem RdI.sub {w:World}{B:Nat}{b o n c:Nat}{xs:List Int}(h:RdI w B (some ⟨b,o,none⟩) n c xs) {k:Nat}(hk:k<n) {x:Int}(hx:Hid (xs[k]?=some x)):RdI w B (some ⟨b,o+k,none⟩) 1 (c - k) [x]:=by
 have hc:=h.cap
 have hm:=h.mx
 refine⟨rfl,by omega,by omega,fun _=>?_⟩
 obtain⟨b2,o2,hA,hlt,hcc⟩:=h.rd (by omega)
 injection hA with hA;injection hA with e1 e2;subst e1 e2
 refine⟨b,o+k,rfl,hlt,fun j u hj=>?_⟩
 have hj0:j=0:=by
  have:=(List.getElem?_eq_some_iff.1 hj).1
  simp at this;omega
 subst hj0
 simp only[List.map_cons,List.getElem?_cons_zero,Option.some.injEq]at hj
 subst hj
 have:=hcc k (.int .i64 x) (by rw[List.getElem?_map,hx.out];rfl)
 simpa using this
def slT (h:Hp) (bs:List Bool) (k:Nat):List Int:=((List.range k).filter (atB bs)).map fun n:Nat=>(n:Int)
theorem slT_succ (h:Hp) (bs:List Bool) (k:Nat):slT h bs (k+1)=if atB bs k then slT h bs k++[(k:Int)] else slT h bs k:=by
 unfold slT
 rw[List.range_succ,List.filter_append,List.map_append]
 cases e:atB bs k <;> simp[List.filter_cons,e]
theorem slT_len (h:Hp) (bs:List Bool) (k:Nat):(slT h bs k).length<=k:=by
 unfold slT
 have:=List.length_filter_le (atB bs) (List.range k)
 simp only[List.length_map]
 simpa using this
theorem slT_end (h:Hp):slT h (reachL h.cells h.roots) h.cells.length=slideL h:=by
 unfold slT slideL
 congr 1
 refine List.filter_congr fun k hk=>?_
 exact atB_at (reachL_at (List.mem_range.1 hk))
set_option maxHeartbeats 1600000 in
theorem l16Order_any (w:World) (B:Nat) (v:Value) (h:Hp) (hh:RdH w B v h) (hok:heapOk h=true):
  Calls Tryz.prog 95 #[v] w (MadeI w (slideL h)):=by
 have hh':=hh.top
 obtain⟨D,m,d,D',m',d',rfl,hC,hR⟩:=hh.top
 obtain⟨s4,-⟩:=heapOk_small hok
 have HOk:=hid hok
 have H:=((Owns.nil w).box [.slice D m d,.slice D' m' d'] 29).litI [] zero_le_maxLen
 simp only[World.size_alloc,List.length_nil,List.map_nil]at H
 obtain⟨a0,a1,-,-⟩:=H.box2 1 rfl
 clear hok
 go_enter Tryz.func95,Tryz.ntmps95
 go_wp2_with fail
 refine (l7Reach_any _ _ _ _ h _ _ _ h.roots (hh'.below H.below) (hR.below H.below) (by omega) (heapOk_leads HOk.out).1 (heapOk_leads HOk.out).2).mono ?_
 rintro e w1 ⟨bv,rfl,ho,hb⟩
 have H2:=H.madeB ho hb
 obtain⟨N,hN⟩:∃ N,N=reachL h.cells h.roots:=⟨_,rfl⟩
 rw[<-hN]at H2
 have hNl:N.length<=h.cells.length:=by rw[hN,reachL_length];exact Nat.le_refl _
 have hNm:h.cells.length<=N.length:=by rw[hN,reachL_length];exact Nat.le_refl _
 have HE:Hid (slT h N N.length=slideL h):=hid (by rw[hN,reachL_length];exact slT_end h)
 obtain⟨V,kV,rfl,-⟩:=H2.formB 0 rfl
 have H3:Owns w.heap.size w w1 [.bools (.slice V N.length kV) N,.ints (.slice (some ⟨w.heap.size+1,0,none⟩) 0 0) (slT h N 0),.box w.heap.size [.slice D m d,.slice D' m' d'] 29]:=H2
 clear H H2 ho hb a0 a1 hN
 go_wp2_with fail
 go_loopw [3,5] (fun v3 i wr=>∃ k:Nat,i=.int .i64 k/\k<=N.length/\Owns w.heap.size w wr [.bools (.slice V N.length kV) N,.ints v3 (slT h N k),.box w.heap.size [.slice D m d,.slice D' m' d'] 29]) (fun _ i _=>N.length - (intOf i).toNat)
 case atStart=>exact⟨0,rfl,Nat.zero_le _,H3⟩
 case round =>
  clear H3
  obtain⟨k,rfl,hk,H⟩:=hrel
  have hS:=slT_succ h N k
  have hl:=slT_len h N k
  obtain⟨Q,hQ⟩:∃ Q,Q=slT h N k:=⟨_,rfl⟩
  by_cases hlt:k<N.length
  ·rw[<-hQ]at H hS hl
   obtain⟨A3,c3,rfl,-⟩:=H.formI 1 rfl
   obtain⟨x,hx⟩:∃ x,Hid (N[k]?=some x):=⟨_,hid (List.getElem?_eq_getElem hlt)⟩
   rw[atB_at hx.out]at hS
   obtain⟨g,cc,e,hc1,hc2,hg1,hg2⟩:=H.rowAt 0 rfl (by omega)
   simp only[Value.slice.injEq,true_and]at e
   obtain⟨rfl,rfl⟩:=e
   obtain⟨z0,zf⟩:=H.elem 0 rfl (j:=k) (u:=.bool x) (by rw[List.getElem?_map,hx.out];rfl)
   clear hQ
   cases x
   ·have HT:Hid (slT h N (k+1)=Q):=hid (by simpa using hS)
    clear hS
    go_wp2
    go_roundw
    case rel=>exact⟨k+1,by go_num,by omega,by rw[HT.out];exact H⟩
    case measure=>simp[intOf];omega
   ·have HT:Hid (slT h N (k+1)=Q++[(k:Int)]):=hid (by simpa using hS)
    have H5:=H.litI [(k:Int)] one_le_maxLen
    simp only[lml]at H5
    clear hS H
    go_wp2_with (at_builtin;go_loud (refine wpList_pushO rfl (.tmp 21) (.tmp 23) rfl H5 2 rfl rfl rfl (rdI_new _ _ _ rfl) (by omega) ?_;intro A4 k4 w5 H6;simp only[lsz]at H6;generalize hM:Q++[(k:Int)]=M at *))
    have H7:=H6.erase 0
    simp only[List.eraseIdx_cons_zero]at H7
    clear H5 H6
    go_roundw
    case rel=>exact⟨k+1,by go_num,by omega,by rw[HT.out];exact H7⟩
    case measure=>simp[intOf];omega
  ·rw[show k=N.length by omega,HE.out]at H
   have HO:=hid H
   clear H hS hl hQ
   go_wp2
   go_ret
   exact HO.out.toI 1 rfl
set_option maxHeartbeats 1600000 in
theorem slideOrder_any (w:World) (B:Nat) (v:Value) (h:Hp) (hh:RdH w B v h) (hok:heapOk h=true):
  Calls Tryz.prog 175 #[v] w (MadeI w (slideL h)):=by
 have hh':=hh.top
 obtain⟨D,m,d,D',m',d',rfl,hC,hR⟩:=hh.top
 obtain⟨s4,-⟩:=heapOk_small hok
 have l3:=hC.le1;have l4:=hC.le2
 obtain⟨N,hN⟩:∃ N,N=reachL h.cells h.roots:=⟨_,rfl⟩
 have HN:Hid (∀ k,k<m->hasB (closM h.cells (usedM h.cells) h.roots) (k:Int)=atB N k):=hid fun k hk=>by rw[hasR (by omega),hN,atB_at (reachL_at (by omega))]
 have HLt:=hid (closM_lt h.cells (usedM h.cells) h.roots)
 have HE:Hid (slT h N m=slideL h):=hid (by rw[hN,show m=h.cells.length by omega];exact slT_end h)
 have H:=((Owns.nil w).box [.slice D m d,.slice D' m' d'] 29).litI [] zero_le_maxLen
 simp only[World.size_alloc,List.length_nil,List.map_nil]at H
 obtain⟨a0,a1,-,-⟩:=H.box2 1 rfl
 clear hok hN
 go_enter Tryz.func175,Tryz.ntmps175
 go_wp2_with fail
 refine (reachable_any _ _ _ h (hh'.below H.below) (by omega)).mono ?_
 rintro e w1 ⟨rfl,hb⟩
 have H2:=H.call hb
 generalize closM h.cells (usedM h.cells) h.roots=M at *
 have H3:Owns w.heap.size w w1 [.ints (.slice (some ⟨w.heap.size+1,0,none⟩) 0 0) (slT h N 0),.box w.heap.size [.slice D m d,.slice D' m' d'] 29]:=H2
 clear H H2 hb a0 a1
 obtain⟨a0,a1,-,-⟩:=H3.box2 1 rfl
 go_wp2_with fail
 clear a0 a1
 go_loopw [3,12] (fun v3 i wr=>∃ k:Nat,i=.int .i64 k/\k<=m/\Owns w.heap.size w wr [.ints v3 (slT h N k),.box w.heap.size [.slice D m d,.slice D' m' d'] 29]) (fun _ i _=>m - (intOf i).toNat)
 case atStart=>exact⟨0,rfl,Nat.zero_le _,H3⟩
 case round =>
  clear H3
  obtain⟨k,rfl,hk,H⟩:=hrel
  have hS:=slT_succ h N k
  have hl:=slT_len h N k
  obtain⟨Q,hQ⟩:∃ Q,Q=slT h N k:=⟨_,rfl⟩
  by_cases hlt:k<m
  ·rw[<-hQ]at H hS hl
   obtain⟨A3,c3,rfl,-⟩:=H.formI 0 rfl
   have HK:=hid (HN.out k hlt)
   have HS:=hid hS
   clear hQ hS
   go_wp2_with fail
   refine (has_any M (k:Int) _ HLt.out).mono ?_
   rintro e w2 ⟨rfl,hw2⟩
   obtain rfl:=hw2
   rw[HK.out]
   cases hx:atB N k
   ·have HT:Hid (slT h N (k+1)=Q):=hid (by have:=HS.out;simpa [hx] using this)
    clear HS hx
    go_wp2
    go_roundw
    case rel=>exact⟨k+1,by go_num,by omega,by rw[HT.out];exact H⟩
    case measure=>simp[intOf];omega
   ·have HT:Hid (slT h N (k+1)=Q++[(k:Int)]):=hid (by have:=HS.out;simpa [hx] using this)
    have H5:=H.litI [(k:Int)] one_le_maxLen
    simp only[lml]at H5
    clear HS hx H
    go_wp2_with (at_builtin;go_loud (refine wpList_pushO rfl (.tmp 18) (.tmp 20) rfl H5 1 rfl rfl rfl (rdI_new _ _ _ rfl) (by omega) ?_;intro A4 k4 w5 H6;simp only[lsz]at H6;generalize hM:Q++[(k:Int)]=M2 at *))
    have H7:=H6.erase 0
    simp only[List.eraseIdx_cons_zero]at H7
    clear H5 H6
    go_roundw
    case rel=>exact⟨k+1,by go_num,by omega,by rw[HT.out];exact H7⟩
    case measure=>simp[intOf];omega
  ·rw[show k=m by omega,HE.out]at H
   have HO:=hid H
   clear H hS hl hQ
   go_wp2
   go_ret
   exact HO.out.toI 0 rfl
set_option maxHeartbeats 3200000 in
set_option maxRecDepth 20000 in
theorem implSlideHeap_any (w:World) (B:Nat) (v:Value) (h:Hp) (hh:RdH w B v h) (hok:heapOk h=true):
  Calls Tryz.prog 174 #[v] w (MadeH w (mSlide h)):=by
 have hh':=hh.top
 obtain⟨D,m,d,D',m',d',rfl,hC,hR⟩:=hh.top
 have HOk:=hid hok
 have hlo:(slideL h).length<=40:=by exact slide_short hok
 have HNd:=hid (slide_nodup h)
 have HMem:Hid (∀ c,c∈slideL h ↔ RchI h c):=hid fun c=>mem_slide
 rw[mSlide_yes hok]
 obtain⟨o,hoe⟩:∃ o,o=slideL h:=⟨_,rfl⟩
 rw[<-hoe]at hlo HNd HMem⊢
 have HOe:=hid hoe
 clear hok hoe
 have H1:=((Owns.nil w).box [.slice D m d,.slice D' m' d'] 29).box [.slice none 0 0,.slice none 0 0] 29
 simp only[lnm]at H1
 obtain⟨a0,a1,-,-⟩:=H1.box2 1 rfl
 go_enter Tryz.func174,Tryz.ntmps174
 go_wp2_with fail
 refine (heapValid_any _ _ _ h (hh'.below H1.below)).mono ?_
 rintro e w1 ⟨rfl,hb1⟩
 rw[HOk.out]
 have H2:=H1.call hb1
 clear H1 hb1 a0 a1
 go_wp2_with fail
 have HX:=H2.drew
 have H0:=hid H2
 clear H2
 obtain⟨b0,b1,-,-⟩:=HX.box2 1 rfl
 refine wp_region_tree (fun w'=>w'.cell? ⟨w.heap.size,0,none⟩=some (.slice D m d)/\w'.cell? ⟨w.heap.size,1,none⟩=some (.slice D' m' d')) 4 [] (.take 0 (.take 1 (.alt 2 (.alt 3 (.alt 4 (.done) (.stop)) (.stop)) (.stop)))) (by kernel_rfl) (by kernel_rfl) (by kernel_rfl) (⟨b0,b1⟩) ?_
 simp only[fillT,lgz,Nat.reduceBEq]
 repeat first|(with_reducible apply po_take;(·(go_simp;done));(·(intro w' hS';(try dsimp only at hS');go_simp;try with_reducible rfl));simp only[lpa])|(with_reducible apply po_skip;(·(go_simp;done));simp only[lpa])
 with_reducible refine po_last ?_ (fun K hK=>?_)
 ·(go_simp;done)
 go_simp
 refine (slideOrder_any _ _ _ h (hh'.below HX.below) HOk.out).mono ?_
 rintro e w2 ⟨v2,rfl,ho,hb⟩
 rw[<-HOe.out]at ho
 replace HX:=HX.madeI ho hb
 clear b0 b1 ho hb
 obtain⟨O,kO,rfl,-⟩:=HX.formI 0 rfl
 obtain⟨b0,b1,-,-⟩:=HX.box2 2 rfl
 refine hK.out _ _ (.inr (⟨b0,b1⟩)) ?_
 clear hK K
 with_reducible refine po_last ?_ (fun K hK=>?_)
 ·(go_simp;done)
 go_simp
 refine (gathered_any _ _ _ _ h _ _ _ o (hh'.below HX.below) (HX.owI 0 rfl).rdI HOk.out HNd.out hlo HMem.out).mono ?_
 rintro e w3 ⟨v3,rfl,ho,hb⟩
 obtain⟨Z,hZ⟩:∃ Z,Z=gath h o:=⟨_,rfl⟩
 rw[<-hZ]at ho
 have HZe:=hid hZ
 clear hZ
 obtain⟨cv,rvs,rv,rfl,HY⟩:=HX.madeH ho hb
 clear b0 b1 ho hb HX
 have HX:=HY
 clear HY
 obtain⟨C,kC,rfl,-⟩:=HX.formC 0 rfl
 obtain⟨R,kR,rfl,-⟩:=HX.formI 1 rfl
 obtain⟨b0,b1,-,-⟩:=HX.box2 4 rfl
 refine hK.out _ _ (.inr (⟨b0,b1⟩)) ?_
 clear hK K
 with_reducible refine po_last ?_ (fun K hK=>?_)
 ·(go_simp;done)
 obtain⟨y0,y1,y2,y3⟩:=HX.box2 3 rfl
 go_simp
 have HZ:=(HX.putBox 3 rfl 0 (.slice C Z.cells.length kC)).putBox 3 rfl 1 (.slice R Z.roots.length kR)
 simp only[lnm]at HZ
 refine hK.out _ _ (.inl rfl) ?_
 clear hK K
 refine po_done ?_
 obtain⟨z0,z1,-,-⟩:=HZ.box2 3 rfl
 have HS:Hid (MadeH w (gath h o) (.returned (.agg #[.slice C Z.cells.length kC,.slice R Z.roots.length kR])) _):=hid (by rw[<-HZe.out];exact HZ.toH 0 1 rfl rfl)
 clear HX HZ H0 b0 b1 y0 y1 y2 y3
 go_wp2
 exact bodyPost_ret (by simp[results,Tryz.results174,go_sem,z0,z1]) rfl HS.out
set_option maxHeartbeats 3200000 in
set_option maxRecDepth 20000 in
theorem specSlideHeap_any (w:World) (B:Nat) (v:Value) (h:Hp) (hh:RdH w B v h) (hok:heapOk h=true):
  Calls Tryz.prog 66 #[v] w (MadeH w (mSlide h)):=by
 have hh':=hh.top
 obtain⟨D,m,d,D',m',d',rfl,hC,hR⟩:=hh.top
 have HOk:=hid hok
 have hlo:(slideL h).length<=40:=by exact slide_short hok
 have HNd:=hid (slide_nodup h)
 have HMem:Hid (∀ c,c∈slideL h ↔ RchI h c):=hid fun c=>mem_slide
 rw[mSlide_yes hok]
 obtain⟨o,hoe⟩:∃ o,o=slideL h:=⟨_,rfl⟩
 rw[<-hoe]at hlo HNd HMem⊢
 have HOe:=hid hoe
 clear hok hoe
 have H1:=((Owns.nil w).box [.slice D m d,.slice D' m' d'] 29).box [.slice none 0 0,.slice none 0 0] 29
 simp only[lnm]at H1
 obtain⟨a0,a1,-,-⟩:=H1.box2 1 rfl
 go_enter Tryz.func66,Tryz.ntmps66
 go_wp2_with fail
 refine (specHeapValid_any _ _ _ h (hh'.below H1.below)).mono ?_
 rintro e w1 ⟨rfl,hb1⟩
 rw[HOk.out]
 have H2:=H1.call hb1
 clear H1 hb1 a0 a1
 go_wp2_with fail
 have HX:=H2.drew
 have H0:=hid H2
 clear H2
 obtain⟨b0,b1,-,-⟩:=HX.box2 1 rfl
 refine wp_region_tree (fun w'=>w'.cell? ⟨w.heap.size,0,none⟩=some (.slice D m d)/\w'.cell? ⟨w.heap.size,1,none⟩=some (.slice D' m' d')) 4 [] (.take 0 (.take 1 (.alt 2 (.alt 3 (.alt 4 (.done) (.stop)) (.stop)) (.stop)))) (by kernel_rfl) (by kernel_rfl) (by kernel_rfl) (⟨b0,b1⟩) ?_
 simp only[fillT,lgz,Nat.reduceBEq]
 repeat first|(with_reducible apply po_take;(·(go_simp;done));(·(intro w' hS';(try dsimp only at hS');go_simp;try with_reducible rfl));simp only[lpa])|(with_reducible apply po_skip;(·(go_simp;done));simp only[lpa])
 with_reducible refine po_last ?_ (fun K hK=>?_)
 ·(go_simp;done)
 go_simp
 refine (l16Order_any _ _ _ h (hh'.below HX.below) HOk.out).mono ?_
 rintro e w2 ⟨v2,rfl,ho,hb⟩
 rw[<-HOe.out]at ho
 replace HX:=HX.madeI ho hb
 clear b0 b1 ho hb
 obtain⟨O,kO,rfl,-⟩:=HX.formI 0 rfl
 obtain⟨b0,b1,-,-⟩:=HX.box2 2 rfl
 refine hK.out _ _ (.inr (⟨b0,b1⟩)) ?_
 clear hK K
 with_reducible refine po_last ?_ (fun K hK=>?_)
 ·(go_simp;done)
 go_simp
 refine (l15Move_any _ _ _ _ h _ _ _ o (hh'.below HX.below) (HX.owI 0 rfl).rdI (by omega) (fun c l hl=>by have:=(refs3 HOk.out hl).1;omega) (by have:=(heapOk_small HOk.out).2;omega) (fun x hx=>by have h1:=(HMem.out x).1 hx;have h2:=reach_lt h1;have h3:=h1.1;omega)).mono ?_
 rintro e w3 ⟨v3,rfl,ho,hb⟩
 obtain⟨Z,hZ⟩:∃ Z,Z=gath h o:=⟨_,rfl⟩
 rw[<-hZ]at ho
 have HZe:=hid hZ
 clear hZ
 obtain⟨cv,rvs,rv,rfl,HY⟩:=HX.madeH ho hb
 clear b0 b1 ho hb HX
 have HX:=HY
 clear HY
 obtain⟨C,kC,rfl,-⟩:=HX.formC 0 rfl
 obtain⟨R,kR,rfl,-⟩:=HX.formI 1 rfl
 obtain⟨b0,b1,-,-⟩:=HX.box2 4 rfl
 refine hK.out _ _ (.inr (⟨b0,b1⟩)) ?_
 clear hK K
 with_reducible refine po_last ?_ (fun K hK=>?_)
 ·(go_simp;done)
 obtain⟨y0,y1,y2,y3⟩:=HX.box2 3 rfl
 go_simp
 have HZ:=(HX.putBox 3 rfl 0 (.slice C Z.cells.length kC)).putBox 3 rfl 1 (.slice R Z.roots.length kR)
 simp only[lnm]at HZ
 refine hK.out _ _ (.inl rfl) ?_
 clear hK K
 refine po_done ?_
 obtain⟨z0,z1,-,-⟩:=HZ.box2 3 rfl
 have HS:Hid (MadeH w (gath h o) (.returned (.agg #[.slice C Z.cells.length kC,.slice R Z.roots.length kR])) _):=hid (by rw[<-HZe.out];exact HZ.toH 0 1 rfl rfl)
 clear HX HZ H0 b0 b1 y0 y1 y2 y3
 go_wp2
 exact bodyPost_ret (by simp[results,Tryz.results66,go_sem,z0,z1]) rfl HS.out
set_option maxHeartbeats 6400000 in
set_option maxRecDepth 20000 in
theorem runMovingSlide_any (w:World) (B:Nat) (A:Option Addr) (n c:Nat) (cs:List Cmd) (hr:RdQ w B A n c cs) (LI:Int):
  Calls Tryz.prog 169 #[.slice A n c,.int .i64 LI,.func (.func 174) #[] #[]] w (MadeHBl w (mRunCpH mSlide cs LI) (mRunCpB mSlide cs LI)):=by
 have hr:=hr.top
 obtain rfl:=hr.len
 have hm:=Nat.le_trans hr.cap hr.mx
 unfold maxLen at hm
 have H:=(Owns.nil w).box [.slice none 0 0,.slice none 0 0] 29
 go_enter Tryz.func169,Tryz.ntmps169
 go_wp2_with fail
 refine (implCommandsValid_any _ _ _ _ _ cs (hr.below H.below)).mono ?_
 rintro e w1 ⟨rfl,hb⟩
 replace H:=H.call hb
 clear hb
 obtain⟨y0,y1,y2,y3⟩:=H.box2 0 rfl
 cases hc:cmdsOk cs
 ·have HF1:=hid (cpH_no1 (mv:=mSlide) (LI:=LI) hc)
  have HF2:=hid (cpB_no1 (mv:=mSlide) (LI:=LI) hc)
  clear hc
  have HZ:=(((H.putBox 0 rfl 0 (.slice none 0 0)).putBox 0 rfl 1 (.slice none 0 0)).noInts).noCells
  simp only[lnm]at HZ
  obtain⟨z0,z1,-,-⟩:=HZ.box2 2 rfl
  have HS:Hid (MadeHBl w (mRunCpH mSlide cs LI) (mRunCpB mSlide cs LI) (.returned (.tuple #[.agg #[.slice none 0 0,.slice none 0 0],.bool false])) _):=hid (by rw[HF1.out,HF2.out];exact⟨_,[],_,rfl,HZ.take 2⟩)
  clear HZ H
  go_wp2
  exact bodyPost_ret (by simp[results,Tryz.results169,go_sem,z0,z1]) rfl HS.out
 go_wp2_with fail
 refine (isLimit_any LI _).mono ?_
 rintro e w2 ⟨rfl,hw⟩
 obtain rfl:=hw
 cases hl:inR LI 1 40
 ·have HF1:=hid (cpH_no2 (mv:=mSlide) (cs:=cs) hl)
  have HF2:=hid (cpB_no2 (mv:=mSlide) (cs:=cs) hl)
  clear hc hl
  have HZ:=(((H.putBox 0 rfl 0 (.slice none 0 0)).putBox 0 rfl 1 (.slice none 0 0)).noInts).noCells
  simp only[lnm]at HZ
  obtain⟨z0,z1,-,-⟩:=HZ.box2 2 rfl
  have HS:Hid (MadeHBl w (mRunCpH mSlide cs LI) (mRunCpB mSlide cs LI) (.returned (.tuple #[.agg #[.slice none 0 0,.slice none 0 0],.bool false])) _):=hid (by rw[HF1.out,HF2.out];exact⟨_,[],_,rfl,HZ.take 2⟩)
  clear HZ H
  go_wp2
  exact bodyPost_ret (by simp[results,Tryz.results169,go_sem,z0,z1]) rfl HS.out
 obtain⟨q1,q2⟩:=inR_iff.1 hl
 obtain⟨L,rfl⟩:=Int.eq_ofNat_of_zero_le (show 0<=LI by omega)
 have hL1:1<=L:=by omega
 have hL2:L<=40:=by omega
 have HA:=hid (cmdsOk_all hc)
 obtain⟨RR,hRR⟩:∃ r,r=runCp mSlide L emptyH cs:=⟨_,rfl⟩
 have HF1:Hid (mRunCpH mSlide cs (L:Int)=RR.1):=hid (by rw[cpH_yes hc hL1 hL2,hRR])
 have HF2:Hid (mRunCpB mSlide cs (L:Int)=RR.2):=hid (by rw[cpB_yes hc hL1 hL2,hRR])
 have HR0:Hid (runCp mSlide L emptyH (cs.drop 0)=RR):=hid (by rw[hRR,List.drop_zero])
 clear hc hl q1 q2 hRR
 go_wp2_with fail
 refine (implEmptyHeap_any _).mono ?_
 rintro e w3 ⟨cv,rvs,rv,rfl,K⟩
 replace K:=H.merge K
 simp only[lca]at K
 obtain⟨C,kC,rfl,-⟩:=K.formC 0 rfl
 obtain⟨R,kR,rfl,-⟩:=K.formI 1 rfl
 clear H y0 y1 y2 y3
 have H3:=K.box [.slice C emptyH.cells.length kC,.slice R emptyH.roots.length kR] 29
 clear K
 go_wp2_with fail
 go_loopw [23] (fun i wr=>∃ (k:Nat) (C R:Option Addr) (kC kR:Nat) (rvs:List Value) (h:Hp),i=.int .i64 k/\k<=cs.length/\Hid (runCp mSlide L h (cs.drop k)=RR)/\Hid (Good h)/\Owns w.heap.size w wr [.box w3.heap.size [.slice C h.cells.length kC,.slice R h.roots.length kR] 29,.cells (.slice C h.cells.length kC) rvs h.cells,.ints (.slice R h.roots.length kR) h.roots,.box w.heap.size [.slice none 0 0,.slice none 0 0] 29]) (fun i _=>cs.length - (intOf i).toNat)
 case atStart=>exact⟨0,C,R,kC,kR,rvs,emptyH,rfl,Nat.zero_le _,HR0,hid emptyH_good,H3⟩
 case round =>
  clear H3 HR0
  obtain⟨k,C,R,kC,kR,rvs,h,rfl,hk,HR,GG,H⟩:=hrel
  obtain⟨x0,x1,x2,x3⟩:=H.box2 0 rfl
  by_cases hlt:k<cs.length
  ·obtain⟨b,o,p,rfl,hbb,hx,q1,q2,q3,q4⟩:=hr.at_ hlt
   have HP:Hid (cmdOk p=true):=hid (HA.out p (List.mem_of_getElem? hx.out))
   have g1:=H.ro q1 hbb
   have g2:=H.ro q2 hbb
   have g3:=H.ro q3 hbb
   have g4:=H.ro q4 hbb
   have H0:=H.box [.int .i64 p.op,.int .i64 p.a,.int .i64 p.b,.int .i64 p.c] 79
   clear H x0 x1 x2 x3
   obtain⟨x0,x1,x2,x3⟩:=H0.box2 1 rfl
   obtain⟨b0,b1,b2,b3,-,-,-,-⟩:=box4 H0 0 rfl
   by_cases hm:p.op=1/\L<=h.cells.length
   rotate_left
   ·have HE:Hid (runCp mSlide L (mStep h p) (cs.drop (k+1))=RR):=hid (runCp_go hx HR.out hm)
    have HTG:Hid (Good (mStep h p)):=hid (mStep_good GG.out HP.out)
    clear HR
    by_cases h1:p.op=1
    ·have k3:(p.op == 1)=true:=by simp[h1]
     have k4:¬ (L:Int)<=(h.cells.length:Int):=by omega
     clear h1 hm
     go_wp2_with fail
     refine (implStepHeap_any _ _ _ h (H0.rdH 2 3 rfl rfl) p GG.out HP.out).mono ?_
     rintro e w5 ⟨cv,rvs',rv,rfl,K⟩
     replace K:=H0.merge K
     simp only[lca]at K
     obtain⟨T,hT⟩:∃ T,T=mStep h p:=⟨_,rfl⟩
     generalize stepOk h p=tb at *
     rw[<-hT]at K HE HTG
     clear hT H0 x0 x1 x2 x3 b0 b1 b2 b3
     obtain⟨C',kC',rfl,-⟩:=K.formC 0 rfl
     obtain⟨R',kR',rfl,-⟩:=K.formI 1 rfl
     obtain⟨x0,x1,x2,x3⟩:=K.box2 3 rfl
     have H7:=((K.putBox 3 rfl 0 (.slice C' T.cells.length kC')).putBox 3 rfl 1 (.slice R' T.roots.length kR')).places [3,0,1,6] (by decide) (by simp)
     simp only[lfm,lsz]at H7
     clear K
     go_wp2_with fail
     go_roundw
     case rel=>exact⟨k+1,C',R',kC',kR',rvs',T,by go_num,by omega,HE,HTG,H7⟩
     case measure=>simp[intOf];omega
    ·have k3:(p.op == 1)=false:=by simp[h1]
     clear h1 hm
     go_wp2_with fail
     refine (implStepHeap_any _ _ _ h (H0.rdH 2 3 rfl rfl) p GG.out HP.out).mono ?_
     rintro e w5 ⟨cv,rvs',rv,rfl,K⟩
     replace K:=H0.merge K
     simp only[lca]at K
     obtain⟨T,hT⟩:∃ T,T=mStep h p:=⟨_,rfl⟩
     generalize stepOk h p=tb at *
     rw[<-hT]at K HE HTG
     clear hT H0 x0 x1 x2 x3 b0 b1 b2 b3
     obtain⟨C',kC',rfl,-⟩:=K.formC 0 rfl
     obtain⟨R',kR',rfl,-⟩:=K.formI 1 rfl
     obtain⟨x0,x1,x2,x3⟩:=K.box2 3 rfl
     have H7:=((K.putBox 3 rfl 0 (.slice C' T.cells.length kC')).putBox 3 rfl 1 (.slice R' T.roots.length kR')).places [3,0,1,6] (by decide) (by simp)
     simp only[lfm,lsz]at H7
     clear K
     go_wp2_with fail
     go_roundw
     case rel=>exact⟨k+1,C',R',kC',kR',rvs',T,by go_num,by omega,HE,HTG,H7⟩
     case measure=>simp[intOf];omega
   obtain⟨h1,hlen⟩:=hm
   have k3:(p.op == 1)=true:=by simp[h1]
   have k4:(L:Int)<=(h.cells.length:Int):=by omega
   have HST:=hid (fun h3=>runCp_stop hx HR.out h1 hlen h3)
   have HMV:=hid (fun h3=>runCp_moved hx HR.out h1 hlen h3)
   have GX:=hid (good_iff.1 (slide_mover.ok _ (good_iff.2 GG.out)))
   clear HR h1 hlen
   go_wp2_with fail
   refine (implSlideHeap_any _ _ _ h (H0.rdH 2 3 rfl rfl) (good_iff.2 GG.out)).mono ?_
   rintro e w4 ⟨v1,rfl,ho,hb⟩
   obtain⟨cv,rvs',rv,rfl,K⟩:=H0.madeH ho hb
   obtain⟨X,hX⟩:∃ X,X=mSlide h:=⟨_,rfl⟩
   rw[<-hX]at K HST HMV GX
   clear ho hb hX H0 x0 x1 x2 x3 g1 g2 g3 g4 b0 b1 b2 b3
   obtain⟨C,kC,rfl,-⟩:=K.formC 0 rfl
   obtain⟨R,kR,rfl,-⟩:=K.formI 1 rfl
   obtain⟨x0,x1,x2,x3⟩:=K.box2 3 rfl
   have H0:=((K.putBox 3 rfl 0 (.slice C X.cells.length kC)).putBox 3 rfl 1 (.slice R X.roots.length kR)).places [2,3,0,1,6] (by decide) (by simp)
   simp only[lfm,lsz]at H0
   clear K
   by_cases hs:L<=X.cells.length
   ·have HE:=hid (HST.out hs)
    have k5:(L:Int)<=(X.cells.length:Int):=by omega
    obtain⟨v0,v1,-,-⟩:=H0.box2 1 rfl
    obtain⟨y0,y1,y2,y3⟩:=H0.box2 4 rfl
    have HZ:=(H0.putBox 4 rfl 0 (.slice C X.cells.length kC)).putBox 4 rfl 1 (.slice R X.roots.length kR)
    simp only[lnm]at HZ
    obtain⟨z0,z1,-,-⟩:=HZ.box2 4 rfl
    obtain⟨z2,-,-,-⟩:=(H0.putBox 4 rfl 0 (.slice C X.cells.length kC)).box2 4 rfl
    have HS:Hid (MadeHBl w (mRunCpH mSlide cs (L:Int)) (mRunCpB mSlide cs (L:Int)) (.returned (.tuple #[.agg #[.slice C X.cells.length kC,.slice R X.roots.length kR],.bool false])) _):=hid (by rw[HF1.out,HF2.out,HE.out];exact⟨_,rvs',_,rfl,HZ.order [2,3] (by decide) rfl⟩)
    clear H0 HZ
    go_wp2
    exact bodyPost_ret (by simp[results,Tryz.results169,go_sem,z0,z1,z2]) rfl HS.out
   ·have HE:Hid (runCp mSlide L (mStep X p) (cs.drop (k+1))=RR):=hid (HMV.out hs)
    have HTG:Hid (Good (mStep X p)):=hid (mStep_good GX.out HP.out)
    have k5:¬ (L:Int)<=(X.cells.length:Int):=by omega
    clear HST HMV hs
    obtain⟨v0,v1,-,-⟩:=H0.box2 1 rfl
    obtain⟨b0,b1,b2,b3,-,-,-,-⟩:=box4 H0 0 rfl
    go_wp2_with fail
    refine (implStepHeap_any _ _ _ X (H0.rdH 2 3 rfl rfl) p GX.out HP.out).mono ?_
    rintro e w5 ⟨cv,rvs',rv,rfl,K⟩
    replace K:=H0.merge K
    simp only[lca]at K
    obtain⟨T,hT⟩:∃ T,T=mStep X p:=⟨_,rfl⟩
    generalize stepOk X p=tb at *
    rw[<-hT]at K HE HTG
    clear hT H0 v0 v1 x0 x1 x2 x3 b0 b1 b2 b3
    obtain⟨C',kC',rfl,-⟩:=K.formC 0 rfl
    obtain⟨R',kR',rfl,-⟩:=K.formI 1 rfl
    obtain⟨x0,x1,x2,x3⟩:=K.box2 3 rfl
    have H7:=((K.putBox 3 rfl 0 (.slice C' T.cells.length kC')).putBox 3 rfl 1 (.slice R' T.roots.length kR')).places [3,0,1,6] (by decide) (by simp)
    simp only[lfm,lsz]at H7
    clear K
    go_wp2_with fail
    go_roundw
    case rel=>exact⟨k+1,C',R',kC',kR',rvs',T,by go_num,by omega,HE,HTG,H7⟩
    case measure=>simp[intOf];omega
  ·have HE:=hid (runCp_out (by omega) HR.out)
   obtain⟨y0,y1,y2,y3⟩:=H.box2 3 rfl
   have HZ:=(H.putBox 3 rfl 0 (.slice C h.cells.length kC)).putBox 3 rfl 1 (.slice R h.roots.length kR)
   simp only[lnm]at HZ
   obtain⟨z0,z1,-,-⟩:=HZ.box2 3 rfl
   obtain⟨z2,-,-,-⟩:=(H.putBox 3 rfl 0 (.slice C h.cells.length kC)).box2 3 rfl
   have HS:Hid (MadeHBl w (mRunCpH mSlide cs (L:Int)) (mRunCpB mSlide cs (L:Int)) (.returned (.tuple #[.agg #[.slice C h.cells.length kC,.slice R h.roots.length kR],.bool true])) _):=hid (by rw[HF1.out,HF2.out,HE.out];exact⟨_,rvs,_,rfl,HZ.order [1,2] (by decide) rfl⟩)
   clear H HZ
   go_wp2
   exact bodyPost_ret (by simp[results,Tryz.results169,go_sem,z0,z1,z2]) rfl HS.out
set_option maxHeartbeats 1600000 in
theorem implRunSlide_any (w:World) (B:Nat) (A:Option Addr) (n c:Nat) (cs:List Cmd) (hr:RdQ w B A n c cs) (LI:Int):
  Calls Tryz.prog 173 #[.slice A n c,.int .i64 LI] w (MadeHBl w (mRunCpH mSlide cs LI) (mRunCpB mSlide cs LI)):=by
 have hr:=hr.top
 have H:=(Owns.nil w).box [.slice none 0 0,.slice none 0 0] 29
 go_enter Tryz.func173,Tryz.ntmps173
 go_wp2_with fail
 refine (runMovingSlide_any _ _ _ _ _ cs (hr.below H.below) LI).mono ?_
 rintro e w1 ⟨cv,rvs,rv,rfl,K⟩
 replace K:=H.merge K
 simp only[lca]at K
 obtain⟨X,hX⟩:∃ X,X=mRunCpH mSlide cs LI:=⟨_,rfl⟩
 obtain⟨tb,htb⟩:∃ b,b=mRunCpB mSlide cs LI:=⟨_,rfl⟩
 rw[<-hX]at K
 rw[<-htb]
 have HX:=hid hX
 have HT:=hid htb
 clear hX htb H
 obtain⟨C,kC,rfl,-⟩:=K.formC 0 rfl
 obtain⟨R,kR,rfl,-⟩:=K.formI 1 rfl
 obtain⟨y0,y1,y2,y3⟩:=K.box2 2 rfl
 have HZ:=(K.putBox 2 rfl 0 (.slice C X.cells.length kC)).putBox 2 rfl 1 (.slice R X.roots.length kR)
 simp only[lnm]at HZ
 obtain⟨z0,z1,-,-⟩:=HZ.box2 2 rfl
 obtain⟨z2,-,-,-⟩:=(K.putBox 2 rfl 0 (.slice C X.cells.length kC)).box2 2 rfl
 have HS:Hid (MadeHBl w (mRunCpH mSlide cs LI) (mRunCpB mSlide cs LI) (.returned (.tuple #[.agg #[.slice C X.cells.length kC,.slice R X.roots.length kR],.bool tb])) _):=hid (by rw[<-HX.out,<-HT.out];exact⟨_,rvs,_,rfl,HZ.take 2⟩)
 clear K HZ
 go_wp2
 exact bodyPost_ret (by simp[results,Tryz.results173,go_sem,z0,z1,z2]) rfl HS.out
section
def ygM (a:Ag):Nat:=lessB (usedM a.store.cells) (setM a.old)
theorem ygM_lt (a:Ag):ygM a<2 ^ 64:=lessB_lt _ _
theorem ygM_bit {a:Ag}(h64:a.store.cells.length<=64) (k:Nat):(ygM a).testBit k=agYg a k:=by
 unfold ygM agYg
 rw[lessB_bit _ _ _ (usedM_lt _),usedM_bit h64,setM_bit];rfl
theorem ygM_in {a:Ag}(h64:a.store.cells.length<=64) (k:Nat) (h:(ygM a).testBit k=true):k<a.store.cells.length:=by
 rw[ygM_bit h64]at h
 unfold agYg at h
 simp only[Bool.and_eq_true]at h
 exact usedN_lt h.1
theorem lessB_zero {x y:Nat}(hx:x<2 ^ 64) (h:∀ c,x.testBit c=true->y.testBit c=true):lessB x y=0:=by
 apply Nat.eq_of_testBit_eq
 intro c
 rw[lessB_bit _ _ _ hx,Nat.zero_testBit]
 cases e:x.testBit c
 ·rfl
 ·rw[h c e];rfl
theorem setM_lt64 {bs:List Bool}(h:bs.length<=64):setM bs<2 ^ 64:=Nat.lt_of_lt_of_le (bitsOf_lt _ _) (Nat.pow_le_pow_right (by omega) h)
theorem setM_at (bs:List Bool) (k:Nat):(setM bs).testBit k=atB bs k:=setM_bit bs k
theorem hasS (bs:List Bool) (k:Nat):hasB (setM bs) (k:Int)=atB bs k:=by rw[hasB_nat,setM_at]
theorem ag_used0 {a:Ag}(A:AgOk a) (h64:a.store.cells.length<=64):lessB (setM a.old) (usedM a.store.cells)=0:=
 lessB_zero (setM_lt64 (by rw[A.len1];exact h64)) fun c hc=>by rw[usedM_bit h64];exact A.used c (by rw[<-setM_at];exact hc)
theorem ag_sub0 {a:Ag}(A:AgOk a) (h64:a.store.cells.length<=64):lessB (setM a.noted) (setM a.old)=0:=
 lessB_zero (setM_lt64 (by rw[A.len2];exact h64)) fun c hc=>by rw[setM_at];exact A.sub c (by rw[<-setM_at];exact hc)
theorem ag_bar {a:Ag}(A:AgOk a) (h64:a.store.cells.length<=64) {i:Nat}{l:Cel}(hl:a.store.cells[i]?=some l) (h1:atB a.old i=true) (h2:atB a.noted i=false) {r:Int}(hr:r∈l.refs):hasB (ygM a) r=false:=by
 by_cases h0:0<=r
 ·obtain⟨q,rfl⟩:=Int.eq_ofNat_of_zero_le h0
  have:=A.bar i l hl h1 h2 _ hr h0
  rw[hasB_nat,ygM_bit h64]
  unfold agYg
  simp only[Int.toNat_natCast]at this
  rw[this];simp
 ·exact hasB_neg (by omega)
theorem rch_congr {cs:List Cel}{S T:Nat->Bool}{fr:List Int}(h:∀ c,S c=T c) (c:Nat):Rch cs S fr c ↔ Rch cs T fr c:=by
 have:S=T:=funext h
 rw[this]
open Classical in
theorem ag_keepM {a:Ag}(A:AgOk a) (h64:a.store.cells.length<=64):(setM a.old ||| closM a.store.cells (ygM a) (agFrom a))=setM (agKeep a):=by
 apply Nat.eq_of_testBit_eq
 intro k
 rw[Nat.testBit_or,setM_at,setM_at,closM_bit (ygM_lt a)]
 by_cases hk:k<a.store.cells.length
 ·rw[Bool.eq_iff_iff,agKeep_at hk,Bool.or_eq_true,decide_eq_true_eq,rch_congr (ygM_bit h64)]
 ·have e1:atB a.old k=false:=by
   cases e:atB a.old k
   ·rfl
   ·exact absurd (usedN_lt (A.used k e)) hk
  have e2:atB (agKeep a) k=false:=by
   unfold atB
   rw[List.getD_eq_getElem?_getD,List.getElem?_eq_none (by rw[agKeep_len];omega)];rfl
  rw[e1,e2,Bool.false_or,decide_eq_false]
  intro hr
  exact hk (ygM_in h64 k hr.inS)
theorem agKeep_list (a:Ag):(List.range a.store.cells.length).map (setM (agKeep a)).testBit=agKeep a:=by
 apply List.ext_getElem?
 intro k
 by_cases hk:k<a.store.cells.length
 ·rw[List.getElem?_map,List.getElem?_range hk,Option.map_some,setM_at,List.getElem?_eq_getElem (by rw[agKeep_len];exact hk)]
  congr 1
  exact atB_at (List.getElem?_eq_getElem _)
 ·rw[List.getElem?_eq_none (by simp;omega),List.getElem?_eq_none (by rw[agKeep_len];omega)]
def frTo (a:Ag) (k:Nat):List Int:=a.store.roots++((List.range k).filter (atB a.noted)).flatMap fun k=>(a.store.cells.getD k noCel).refs
theorem frTo_zero (a:Ag):frTo a 0=a.store.roots:=by simp[frTo]
theorem frTo_no {a:Ag}{k:Nat}(h:atB a.noted k=false):frTo a (k+1)=frTo a k:=by
 unfold frTo
 rw[List.range_succ,List.filter_append]
 simp[List.filter_cons,h]
theorem frTo_yes {a:Ag}{k:Nat}{l:Cel}(h:atB a.noted k=true) (hl:Hid (a.store.cells[k]?=some l)):frTo a (k+1)=frTo a k++l.refs:=by
 unfold frTo
 rw[List.range_succ,List.filter_append]
 simp only[List.filter_cons,h,if_true,List.filter_nil,List.flatMap_append,List.flatMap_cons,List.flatMap_nil,List.append_nil,getD_of hl,List.append_assoc]
theorem frTo_len {a:Ag}(A:AgOk a) (k:Nat):(frTo a k).length<=4+3*k:=by
 induction k with
 | zero=>rw[frTo_zero];have:=A.good.roots;omega
 | succ k ih =>
  cases h:atB a.noted k
  ·rw[frTo_no h];omega
  ·have hk:k<a.store.cells.length:=usedN_lt (A.used k (A.sub k h))
   rw[frTo_yes h (hid (List.getElem?_eq_getElem hk)),List.length_append]
   have:=(refs3 (good_iff.2 A.good) (List.getElem?_eq_getElem hk)).1
   omega
theorem frTo_end (a:Ag):frTo a a.store.cells.length=agFrom a:=rfl
end
section
structure Lz where
 store:Hp
 marks:List Bool
 at_:Int
def RdZ (w:World) (B:Nat) (v:Value) (l:Lz):Prop:=
 ∃ A n c A' n' c' E q f,v=.agg #[.slice A n c,.slice A' n' c',.slice E q f,.int .i64 l.at_]/\RdC w B A n c l.store.cells/\RdI w B A' n' c' l.store.roots/\RdB w B E q f l.marks
theorem RdZ.below {w w':World}{B:Nat}{v:Value}{l:Lz}(hh:RdZ w B v l) (hb:Below B w w'):RdZ w' B v l:=by
 obtain⟨A,n,c,A',n',c',E,q,f,rfl,h1,h2,h3⟩:=hh
 exact⟨_,_,_,_,_,_,_,_,_,rfl,h1.below hb,h2.below hb,h3.below hb⟩
theorem RdZ.mono {w:World}{B B':Nat}{v:Value}{l:Lz}(hh:RdZ w B v l) (hb:B<=B'):RdZ w B' v l:=by
 obtain⟨A,n,c,A',n',c',E,q,f,rfl,h1,h2,h3⟩:=hh
 exact⟨_,_,_,_,_,_,_,_,_,rfl,h1.mono hb,h2.mono hb,h3.mono hb⟩
theorem RdZ.top {w:World}{B:Nat}{v:Value}{l:Lz}(hh:RdZ w B v l):RdZ w w.heap.size v l:=by
 obtain⟨A,n,c,A',n',c',E,q,f,rfl,h1,h2,h3⟩:=hh
 exact⟨_,_,_,_,_,_,_,_,_,rfl,h1.top,h2.top,h3.top⟩
def lzHead (l:Lz):Bool:=heapOk l.store && decide (l.marks.length=l.store.cells.length) && decide (0<=l.at_) && decide (l.at_<=l.marks.length)
section
variable {l:Lz} (hh:lzHead l=true)
include hh
end
end
def clrR (m:List Bool) (k:Nat) (r:Int):Int:=if (!atB m k && (decide (0<=r) && !atB m r.toNat))=true then -1 else r
def clrC (m:List Bool) (k:Nat) (c:Cel):Cel:=⟨c.used,c.data,c.refs.map (clrR m k)⟩
def clrS (m:List Bool) (cs:List Cel):List Cel:=cs.mapIdx (clrC m)
theorem clrS_at (m:List Bool) (cs:List Cel) (k:Nat):(clrS m cs)[k]?=(cs[k]?).map (clrC m k):=List.getElem?_mapIdx
structure ClrSt (m:List Bool) (cs:List Cel) (k:Nat) (X:List Cel):Prop where
 len:X.length=cs.length
 at_:∀ c,X[c]?=if c<k then (cs[c]?).map (clrC m c) else cs[c]?
structure ClrRt (m:List Bool) (l0:Cel) (k j:Nat) (Y:List Int):Prop where
 len:Y.length=l0.refs.length
 at_:∀ c,Y[c]?=if c<j then (l0.refs[c]?).map (clrR m k) else l0.refs[c]?
theorem ClrSt.start (m:List Bool) (cs:List Cel):ClrSt m cs 0 cs:=⟨rfl,fun c=>by rw[if_neg (by omega)]⟩
theorem ClrRt.start (m:List Bool) (l0:Cel) (k:Nat):ClrRt m l0 k 0 l0.refs:=⟨rfl,fun c=>by rw[if_neg (by omega)]⟩
theorem ClrRt.turn {m:List Bool}{l0:Cel}{k j:Nat}{Y:List Int}{x:Int}(h:ClrRt m l0 k j Y) (hx:Hid (l0.refs[j]?=some x)) (hc:clrR m k x=-1):ClrRt m l0 k (j+1) (Y.set j (-1)):=by
 refine⟨by rw[List.length_set];exact h.len,fun c=>?_⟩
 have hj:j<Y.length:=by rw[h.len];exact (List.getElem?_eq_some_iff.1 hx.out).1
 by_cases e:c=j
 ·subst e
  rw[List.getElem?_set_self hj,if_pos (by omega),hx.out];simp[hc]
 ·rw[List.getElem?_set_ne (fun e'=>e e'.symm),h.at_ c]
  by_cases e2:c<j
  ·rw[if_pos e2,if_pos (by omega)]
  ·rw[if_neg e2,if_neg (by omega)]
theorem ClrSt.done {m:List Bool}{cs:List Cel}{k j:Nat}{X:List Cel}{l0:Cel}{Y:List Int}(h:ClrSt m cs k X) (hl:Hid (cs[k]?=some l0)) (hY:ClrRt m l0 k j Y) (hj:l0.refs.length<=j):ClrSt m cs (k+1) (X.set k ⟨l0.used,l0.data,Y⟩):=by
 have hk:k<X.length:=by rw[h.len];exact (List.getElem?_eq_some_iff.1 hl.out).1
 have hYe:Y=l0.refs.map (clrR m k):=by
  apply List.ext_getElem?
  intro c
  rw[hY.at_ c,List.getElem?_map]
  by_cases e:c<j
  ·rw[if_pos e]
  ·rw[if_neg e,List.getElem?_eq_none (by omega)];rfl
 refine⟨by rw[List.length_set];exact h.len,fun c=>?_⟩
 by_cases e:c=k
 ·subst e
  rw[List.getElem?_set_self hk,if_pos (by omega),hl.out,hYe];rfl
 ·rw[List.getElem?_set_ne (fun e'=>e e'.symm),h.at_ c]
  by_cases e2:c<k
  ·rw[if_pos e2,if_pos (by omega)]
  ·rw[if_neg e2,if_neg (by omega)]
theorem ClrSt.fin {m:List Bool}{cs:List Cel}{k:Nat}{X:List Cel}(h:ClrSt m cs k X) (hk:cs.length<=k):X=clrS m cs:=by
 apply List.ext_getElem?
 intro c
 rw[h.at_ c,clrS_at]
 by_cases e:c<k
 ·rw[if_pos e]
 ·rw[if_neg e,List.getElem?_eq_none (by omega)];rfl
abbrev OB.rowT (v:Value) (n:Nat) (xs:List Bool):OB:=.row 4 1 v n (xs.map Value.bool)
theorem Owns.putRowT {lo:Nat}{w0 w:World}{L:List OB}{g n c:Nat}{xs:List Bool}(h:Owns lo w0 w L) (i:Nat) (hX:L[i]?=some (.rowT (.slice (some ⟨g,0,none⟩) n c) n xs)) (j:Nat) (x:Bool):Owns lo w0 (w.setCell ⟨g,j,none⟩ (.bool x)) (L.set i (.rowT (.slice (some ⟨g,0,none⟩) n c) n (xs.set j x))):=by
 have:=h.putRow i hX j (.bool x)
 rwa [<-List.map_set]at this
theorem rowT_bools {v:Value}{n:Nat}{xs:List Bool}(hn:xs.length=n):OB.rowT v n xs=.bools v xs:=by subst hn;rfl
theorem wp_pushBO {lo:Nat}{w0 w:World}{L:List OB}{o:Oper}{a:Act}{K:Act->World->Prop}{Q:Exit->Act->World->Prop}(s x:Operand)
  (hop:o.op=.call { callee:=.builtin .append,args:=#[s,x],argTypes:=#[62,62] })
  (h:Owns lo w0 w L) (i:Nat) {v:Value} {xs:List Bool} (hX:L[i]?=some (.bools v xs)) (hs:a.eval s=v) {B:Nat} {A:Option Addr} {n c:Nat} {ys:List Bool} (hx:a.eval x=.slice A n c) (hr:RdB w B A n c ys) (hb:xs.length+n<=1099511627776)
  (hK:∀ A' c' w',Owns lo w0 w' (L.set i (.bools (.slice A' (xs++ys).length c') (xs++ys)))->K (a.put o.dst (.slice A' (xs++ys).length c')) w'):o.wp Tryz.prog a w K Q:=by
 obtain⟨A',c',w',hrun,hO⟩:=run_pushOB h i hX hr hb o.type
 unfold Oper.wp execOp
 simp only[hop,resolve,invoke,builtin,Sem.run_bind,Sem.run_pure,Result.andThen_ok,List.map_toArray,List.map_cons,List.map_nil,hs,hx,hrun]
 exact hK A' c' w' hO
set_option maxHeartbeats 1600000 in
set_option maxRecDepth 20000 in
theorem cloneB_any (w:World) (B:Nat) (A:Option Addr) (n c:Nat) (xs:List Bool) (hr:RdB w B A n c xs) (hn:n<=1048576):
  Calls Tryz.prog 184 #[.slice A n c] w (MadeB w xs):=by
 have hr:=hr.top
 obtain⟨i0,hi,hz0,hz1,hz2⟩:=info_parts Tryz.infoBool
 go_enter Tryz.func184,Tryz.ntmps184
 go_wp2_with (at_make;refine wpList_make_own _ rfl _ _ _ rfl w.heap.size 4 i0 (.bool false) 1 Tryz.underlying62 hi hz0 hz1 .i64 .i64 _ n rfl rfl rfl (by rw[hz2];omega) (by unfold maxLen;omega) (Nat.le_refl _) ?_)
 intro w2 hown hg
 have hb1:Below w.heap.size w w2:=(Below.refl _ _).grown hg (Nat.le_refl _) (by simp)
 have H:Owns w.heap.size w w2 [.bools _ []]:=(Owns.nil w).row hb1 hown
 go_wp2_with (at_builtin;go_loud (refine wpList_pushBO rfl (.tmp 5) (.tmp 6) rfl H 0 rfl rfl rfl (hr.below hb1) (by simp;omega) ?_;intro A3 k3 w3 H3;simp only[List.set_cons_zero,List.nil_append]at H3;simp only[List.nil_append]))
 go_ret
 exact H3.toB 0 rfl
def RdAg (w:World) (B:Nat) (v:Value) (a:Ag):Prop:=
 ∃ A n c A' n' c' E q f F r e,v=.agg #[.slice A n c,.slice A' n' c',.slice E q f,.slice F r e]/\RdC w B A n c a.store.cells/\RdI w B A' n' c' a.store.roots/\RdB w B E q f a.old/\RdB w B F r e a.noted
theorem RdAg.below {w w':World}{B:Nat}{v:Value}{a:Ag}(hh:RdAg w B v a) (hb:Below B w w'):RdAg w' B v a:=by
 obtain⟨A,n,c,A',n',c',E,q,f,F,r,e,rfl,h1,h2,h3,h4⟩:=hh
 exact⟨_,_,_,_,_,_,_,_,_,_,_,_,rfl,h1.below hb,h2.below hb,h3.below hb,h4.below hb⟩
theorem RdAg.top {w:World}{B:Nat}{v:Value}{a:Ag}(hh:RdAg w B v a):RdAg w w.heap.size v a:=by
 obtain⟨A,n,c,A',n',c',E,q,f,F,r,e,rfl,h1,h2,h3,h4⟩:=hh
 exact⟨_,_,_,_,_,_,_,_,_,_,_,_,rfl,h1.top,h2.top,h3.top,h4.top⟩
theorem Owns.rdAg {lo:Nat}{w0 w:World}{L:List OB}(h:Owns lo w0 w L) (i j k l:Nat) {cv rv ov nv:Value}{rvs:List Value}{a:Ag}(hX:L[i]?=some (.cells cv rvs a.store.cells)) (hY:L[j]?=some (.ints rv a.store.roots)) (hZ:L[k]?=some (.bools ov a.old)) (hT:L[l]?=some (.bools nv a.noted)):RdAg w w.heap.size (.agg #[cv,rv,ov,nv]) a:=by
 obtain⟨A,a1,rfl,h1⟩:=h.formC i hX
 obtain⟨C,c,rfl,h2⟩:=h.formI j hY
 obtain⟨E,e,rfl,h3⟩:=h.formB k hZ
 obtain⟨F,f,rfl,h4⟩:=h.formB l hT
 exact⟨_,_,_,_,_,_,_,_,_,_,_,_,rfl,h1,h2,h3,h4⟩
def MadeAg (w:World) (a:Ag) (e:Ending) (w':World):Prop:=∃ cv rvs rv ov nv,e=.returned (.agg #[cv,rv,ov,nv])/\Owns w.heap.size w w' [.cells cv rvs a.store.cells,.ints rv a.store.roots,.bools ov a.old,.bools nv a.noted]
def MadeAgB (w:World) (a:Ag) (e:Ending) (w':World):Prop:=∃ cv rvs rv ov nv b,e=.returned (.tuple #[.agg #[cv,rv,ov,nv],.bool b])/\Owns w.heap.size w w' [.cells cv rvs a.store.cells,.ints rv a.store.roots,.bools ov a.old,.bools nv a.noted]
def MadeAgN (w:World) (a:Ag) (e:Ending) (w':World):Prop:=∃ cv rvs rv ov nv n,e=.returned (.tuple #[.agg #[cv,rv,ov,nv],.int .i64 n])/\Owns w.heap.size w w' [.cells cv rvs a.store.cells,.ints rv a.store.roots,.bools ov a.old,.bools nv a.noted]
theorem ag_small {a:Ag}(A:AgOk a):a.store.cells.length<=40/\a.store.roots.length<=4/\a.old.length<=40/\a.noted.length<=40/\Hid (∀ c∈a.store.cells,c.refs.length<=1048576):=by
 have h0:=good_iff.2 A.good
 obtain⟨s4,s5⟩:=heapOk_small h0
 have h1:=A.len1
 have h2:=A.len2
 refine⟨s4,by omega,by omega,by omega,hid fun c hc=>?_⟩
 obtain⟨j,hj,rfl⟩:=List.mem_iff_getElem.1 hc
 have:=(refs3 h0 (List.getElem?_eq_getElem hj)).1
 omega
set_option maxHeartbeats 1600000 in
set_option maxRecDepth 20000 in
theorem young_any (w:World) (B:Nat) (v:Value) (a:Ag) (hh:RdAg w B v a) (A:AgOk a):
  Calls Tryz.prog 140 #[v] w fun e w'=>e=.returned (.int .u64 (ygM a:Nat))/\Below w.heap.size w w':=by
 obtain⟨D,m,d,D',m',d',E,q,f,F,r,x,rfl,hC,hR,hE,hF⟩:=hh.top
 obtain⟨t1,-,t3,-,-⟩:=ag_small A
 have hst:RdH w w.heap.size (.agg #[.slice D m d,.slice D' m' d']) a.store:=⟨_,_,_,_,_,_,rfl,hC,hR⟩
 have l1:=RdB.le1 hE
 have H:=(Owns.nil w).box [.slice D m d,.slice D' m' d',.slice E q f,.slice F r x] 64
 have hq:q<=64:=by omega
 have h64:a.store.cells.length<=64:=by omega
 have HY:Hid (ygM a=lessB (usedM a.store.cells) (setM a.old)):=hid rfl
 clear A
 go_enter Tryz.func140,Tryz.ntmps140
 go_wp2_with fail
 have HX:=H.drew
 clear H
 obtain⟨a0,a1,a2,a3,-,-,-,-⟩:=box4 HX 0 rfl
 refine wp_region_tree (fun w'=>w'.cell? ⟨w.heap.size,0,none⟩=some (.slice D m d)/\w'.cell? ⟨w.heap.size,1,none⟩=some (.slice D' m' d')/\w'.cell? ⟨w.heap.size,2,none⟩=some (.slice E q f)) 8 [] (.take 0 (.take 1 (.take 3 (.take 4 (.alt 2 (.alt 5 (.take 6 (.take 7 (.done))) (.stop)) (.stop)))))) (by kernel_rfl) (by kernel_rfl) (by kernel_rfl) (⟨a0,a1,a2⟩) ?_
 simp only[fillT,lgz,Nat.reduceBEq]
 repeat first|(with_reducible apply po_take;(·(go_simp;done));(·(intro w' hS';(try dsimp only at hS');go_simp;try with_reducible rfl));simp only[lpa])|(with_reducible apply po_skip;(·(go_simp;done));simp only[lpa])
 with_reducible refine po_last ?_ (fun K hK=>?_)
 ·(go_simp;done)
 go_simp
 refine (usedSet_any _ _ _ a.store (hst.below HX.below) h64).mono ?_
 rintro e w1 ⟨rfl,hb⟩
 replace HX:=HX.call hb
 replace a0:=keept a0 hb
 replace a1:=keept a1 hb
 replace a2:=keept a2 hb
 clear hb
 refine hK.out _ _ (.inr (⟨a0,a1,a2⟩)) ?_
 clear hK K
 with_reducible refine po_last ?_ (fun K hK=>?_)
 ·(go_simp;done)
 go_simp
 refine (setOf_any _ _ _ _ _ a.old (hE.below HX.below) hq).mono ?_
 rintro e w2 ⟨rfl,hb⟩
 replace HX:=HX.call hb
 replace a0:=keept a0 hb
 replace a1:=keept a1 hb
 replace a2:=keept a2 hb
 clear hb
 have tO:=bits_andNot (usedM a.store.cells) (setM a.old)
 rw[<-HY.out]at tO
 generalize usedM a.store.cells=U at *
 generalize setM a.old=S at *
 refine hK.out _ _ (.inr (⟨a0,a1,a2⟩)) ?_
 clear hK K
 repeat first|(with_reducible apply po_take;(·(go_simp;done));(·(intro w' hS';(try dsimp only at hS');go_simp;try with_reducible rfl));simp only[lpa])|(with_reducible apply po_skip;(·(go_simp;done));simp only[lpa])
 refine po_done ?_
 have HB:=HX.below
 clear HX a0 a1 a2
 go_wp2
 go_ret
 exact⟨rfl,HB⟩
set_option maxHeartbeats 3200000 in
set_option maxRecDepth 20000 in
theorem copyAged_any (w:World) (B:Nat) (v:Value) (a:Ag) (hh:RdAg w B v a) (A:AgOk a):
  Calls Tryz.prog 181 #[v] w (MadeAg w a):=by
 obtain⟨D,m,d,D',m',d',E,q,f,F,r,x,rfl,hC,hR,hE,hF⟩:=hh.top
 obtain⟨t1,t2,t3,t4,HN3⟩:=ag_small A
 have hst:RdH w w.heap.size (.agg #[.slice D m d,.slice D' m' d']) a.store:=⟨_,_,_,_,_,_,rfl,hC,hR⟩
 have l1:=RdB.le1 hE
 have l2:=RdB.le1 hF
 have H:=((Owns.nil w).box [.slice D m d,.slice D' m' d',.slice E q f,.slice F r x] 64).box [.slice none 0 0,.slice none 0 0,.slice none 0 0,.slice none 0 0] 64
 simp only[lnm]at H
 clear A
 go_enter Tryz.func181,Tryz.ntmps181
 go_wp2_with fail
 have HX:=H.drew
 clear H
 obtain⟨a0,a1,a2,a3,-,-,-,-⟩:=box4 HX 1 rfl
 refine wp_region_tree (fun w'=>(w'.cell? ⟨w.heap.size,0,none⟩=some (.slice D m d)/\w'.cell? ⟨w.heap.size,1,none⟩=some (.slice D' m' d'))/\w'.cell? ⟨w.heap.size,2,none⟩=some (.slice E q f)/\w'.cell? ⟨w.heap.size,3,none⟩=some (.slice F r x)) 10 [] (.take 0 (.take 1 (.take 3 (.take 4 (.take 6 (.take 7 (.alt 2 (.alt 5 (.alt 8 (.take 9 (.alt 10 (.done) (.stop))) (.stop)) (.stop)) (.stop)))))))) (by kernel_rfl) (by kernel_rfl) (by kernel_rfl) (⟨⟨a0,a1⟩,a2,a3⟩) ?_
 simp only[fillT,lgz,Nat.reduceBEq]
 repeat first|(with_reducible apply po_take;(·(go_simp;done));(·(intro w' hS';(try dsimp only at hS');go_simp;try with_reducible rfl));simp only[lpa])|(with_reducible apply po_skip;(·(go_simp;done));simp only[lpa])
 with_reducible refine po_last ?_ (fun K hK=>?_)
 ·(go_simp;done)
 go_simp
 refine (copyHeap_any _ _ _ a.store (hst.below HX.below) (by omega) (by omega) HN3.out).mono ?_
 rintro e w1 ⟨v1,rfl,ho,hb⟩
 obtain⟨cv,rvs,rv,rfl,HY⟩:=HX.madeH ho hb
 obtain⟨C,kC,rfl,-⟩:=HY.formC 0 rfl
 obtain⟨R,kR,rfl,-⟩:=HY.formI 1 rfl
 clear HX ho hb a0 a1 a2 a3
 have HX:=HY
 clear HY
 obtain⟨a0,a1,a2,a3,-,-,-,-⟩:=box4 HX 3 rfl
 refine hK.out _ _ (.inr (⟨⟨a0,a1⟩,a2,a3⟩)) ?_
 clear hK K
 with_reducible refine po_last ?_ (fun K hK=>?_)
 ·(go_simp;done)
 go_simp
 refine (cloneB_any _ _ E q f a.old (hE.below HX.below) (by omega)).mono ?_
 rintro e w2 ⟨hv,rfl,ho,hb⟩
 have HY:=HX.madeB ho hb
 obtain⟨V,kV,rfl,-⟩:=HY.formB 0 rfl
 clear HX ho hb a0 a1 a2 a3
 have HX:=HY
 clear HY
 obtain⟨a0,a1,a2,a3,-,-,-,-⟩:=box4 HX 4 rfl
 refine hK.out _ _ (.inr (⟨⟨a0,a1⟩,a2,a3⟩)) ?_
 clear hK K
 with_reducible refine po_last ?_ (fun K hK=>?_)
 ·(go_simp;done)
 go_simp
 refine (cloneB_any _ _ F r x a.noted (hF.below HX.below) (by omega)).mono ?_
 rintro e w3 ⟨hv,rfl,ho,hb⟩
 have HY:=HX.madeB ho hb
 obtain⟨W,kW,rfl,-⟩:=HY.formB 0 rfl
 clear HX ho hb a0 a1 a2 a3
 have HX:=HY
 clear HY
 obtain⟨a0,a1,a2,a3,-,-,-,-⟩:=box4 HX 5 rfl
 refine hK.out _ _ (.inr (⟨⟨a0,a1⟩,a2,a3⟩)) ?_
 clear hK K
 repeat first|(with_reducible apply po_take;(·(go_simp;done));(·(intro w' hS';(try dsimp only at hS');go_simp;try with_reducible rfl));simp only[lpa])|(with_reducible apply po_skip;(·(go_simp;done));simp only[lpa])
 with_reducible refine po_last ?_ (fun K hK=>?_)
 ·(go_simp;done)
 obtain⟨y0,y1,y2,y3,y4,y5,y6,y7⟩:=box4 HX 4 rfl
 go_simp
 have HZ:=(((HX.putBox 4 rfl 0 (.slice C a.store.cells.length kC)).putBox 4 rfl 1 (.slice R a.store.roots.length kR)).putBox 4 rfl 2 (.slice V a.old.length kV)).putBox 4 rfl 3 (.slice W a.noted.length kW)
 simp only[lsz]at HZ
 clear HX a0 a1 a2 a3
 refine hK.out _ _ (.inl rfl) ?_
 clear hK K
 refine po_done ?_
 obtain⟨z0,z1,z2,z3,-,-,-,-⟩:=box4 HZ 4 rfl
 have HS:Hid (MadeAg w a (.returned (.agg #[.slice C a.store.cells.length kC,.slice R a.store.roots.length kR,.slice V a.old.length kV,.slice W a.noted.length kW])) _):=hid ⟨_,rvs,_,_,_,rfl,HZ.order [2,3,1,0] (by decide) rfl⟩
 clear HZ
 go_wp2
 exact bodyPost_ret (by simp[results,Tryz.results181,go_sem,z0,z1,z2,z3]) rfl HS.out
set_option maxHeartbeats 3200000 in
set_option maxRecDepth 20000 in
theorem implAgedValid_yes (w:World) (B:Nat) (v:Value) (a:Ag) (hh:RdAg w B v a) (A:AgOk a):
  Calls Tryz.prog 180 #[v] w fun e w'=>e=.returned (.bool true)/\Below w.heap.size w w':=by
 have hh':=hh.top
 obtain⟨D,m,d,D',m',d',E,q,f,F,r,x,rfl,hC,hR,hE,hF⟩:=hh.top
 obtain⟨t1,t2,t3,t4,-⟩:=ag_small A
 have hst:RdH w w.heap.size (.agg #[.slice D m d,.slice D' m' d']) a.store:=⟨_,_,_,_,_,_,rfl,hC,hR⟩
 have l1:=RdB.le1 hE;have l2:=RdB.le2 hE
 have l3:=RdB.le1 hF;have l4:=RdB.le2 hF
 have l5:=hC.le1;have l6:=hC.le2
 obtain rfl:q=m:=by have:=A.len1;omega
 obtain rfl:r=q:=by have:=A.len2;omega
 have hq:r<=64:=by omega
 have h64:a.store.cells.length<=64:=by omega
 have HA:=hid A
 have HOk:=hid (good_iff.2 A.good)
 have HR3:Hid (∀ (c:Nat) (l:Cel),a.store.cells[c]?=some l->l.refs.length<=3):=hid fun c l hl=>(refs3 (good_iff.2 A.good) hl).1
 have H:=(Owns.nil w).box [.slice D r d,.slice D' m' d',.slice E r f,.slice F r x] 64
 obtain⟨a0,a1,a2,a3,-,-,-,-⟩:=box4 H 0 rfl
 clear A
 go_enter Tryz.func180,Tryz.ntmps180
 go_wp2_with fail
 refine (heapValid_any _ _ _ a.store (hst.below H.below)).mono ?_
 rintro e w1 ⟨rfl,hb⟩
 rw[HOk.out]
 replace H:=H.call hb
 clear hb a0 a1 a2 a3
 obtain⟨a0,a1,a2,a3,-,-,-,-⟩:=box4 H 0 rfl
 go_wp2_with fail
 have HX:=H.drew
 clear H a0 a1 a2 a3
 obtain⟨a0,a1,a2,a3,-,-,-,-⟩:=box4 HX 0 rfl
 refine wp_region_tree (fun w'=>(w'.cell? ⟨w.heap.size,0,none⟩=some (.slice D r d)/\w'.cell? ⟨w.heap.size,1,none⟩=some (.slice D' m' d'))/\w'.cell? ⟨w.heap.size,2,none⟩=some (.slice E r f)/\w'.cell? ⟨w.heap.size,3,none⟩=some (.slice F r x)) 11 [] (.take 0 (.take 1 (.take 3 (.take 4 (.take 6 (.alt 2 (.alt 5 (.alt 7 (.take 8 (.take 9 (.take 10 (.done)))) (.stop)) (.stop)) (.stop))))))) (by kernel_rfl) (by kernel_rfl) (by kernel_rfl) (⟨⟨a0,a1⟩,a2,a3⟩) ?_
 simp only[fillT,lgz,Nat.reduceBEq]
 repeat first|(with_reducible apply po_take;(·(go_simp;done));(·(intro w' hS';(try dsimp only at hS');go_simp;try with_reducible rfl));simp only[lpa])|(with_reducible apply po_skip;(·(go_simp;done));simp only[lpa])
 with_reducible refine po_last ?_ (fun K hK=>?_)
 ·(go_simp;done)
 go_simp
 refine (setOf_any _ _ _ _ _ a.old (hE.below HX.below) hq).mono ?_
 rintro e w2 ⟨rfl,hb⟩
 replace HX:=HX.call hb
 clear hb a0 a1 a2 a3
 obtain⟨a0,a1,a2,a3,-,-,-,-⟩:=box4 HX 0 rfl
 refine hK.out _ _ (.inr (⟨⟨a0,a1⟩,a2,a3⟩)) ?_
 clear hK K
 with_reducible refine po_last ?_ (fun K hK=>?_)
 ·(go_simp;done)
 go_simp
 refine (setOf_any _ _ _ _ _ a.noted (hF.below HX.below) hq).mono ?_
 rintro e w3 ⟨rfl,hb⟩
 replace HX:=HX.call hb
 clear hb a0 a1 a2 a3
 obtain⟨a0,a1,a2,a3,-,-,-,-⟩:=box4 HX 0 rfl
 refine hK.out _ _ (.inr (⟨⟨a0,a1⟩,a2,a3⟩)) ?_
 clear hK K
 with_reducible refine po_last ?_ (fun K hK=>?_)
 ·(go_simp;done)
 go_simp
 refine (young_any _ _ _ a (hh'.below HX.below) HA.out).mono ?_
 rintro e w4 ⟨rfl,hb⟩
 replace HX:=HX.call hb
 clear hb a0 a1 a2 a3
 obtain⟨a0,a1,a2,a3,-,-,-,-⟩:=box4 HX 0 rfl
 refine hK.out _ _ (.inr (⟨⟨a0,a1⟩,a2,a3⟩)) ?_
 clear hK K
 repeat first|(with_reducible apply po_take;(·(go_simp;done));(·(intro w' hS';(try dsimp only at hS');go_simp;try with_reducible rfl));simp only[lpa])|(with_reducible apply po_skip;(·(go_simp;done));simp only[lpa])
 refine po_done ?_
 go_wp2_with fail
 refine (usedSet_any _ _ _ a.store (hst.below HX.below) h64).mono ?_
 rintro e w5 ⟨rfl,hb⟩
 have H:=HX.call hb
 clear hb a0 a1 a2 a3 HX
 have tO:Go.bits .andNot .u64 (setM a.old:Int) (usedM a.store.cells:Int)=0:=by rw[bits_andNot,ag_used0 HA.out h64];rfl
 have tN:Go.bits .andNot .u64 (setM a.noted:Int) (setM a.old:Int)=0:=by rw[bits_andNot,ag_sub0 HA.out h64];rfl
 have HO:Hid (∀ i:Nat,hasB (setM a.old) (i:Int)=atB a.old i):=hid (hasS a.old)
 have HN:Hid (∀ i:Nat,hasB (setM a.noted) (i:Int)=atB a.noted i):=hid (hasS a.noted)
 have HY:=hid (fun (i:Nat) (l:Cel) (hl:a.store.cells[i]?=some l) h1 h2 (y:Int) (hy:y∈l.refs)=>ag_bar HA.out h64 hl h1 h2 hy)
 have HL1:=hid (setM_lt64 (bs:=a.old) (by omega))
 have HL2:=hid (setM_lt64 (bs:=a.noted) (by omega))
 have HL3:=hid (ygM_lt a)
 generalize usedM a.store.cells=U at *
 generalize setM a.old=S at *
 generalize setM a.noted=T at *
 generalize ygM a=Y at *
 obtain⟨a0,a1,a2,a3,-,-,-,-⟩:=box4 H 0 rfl
 go_wp2_with fail
 clear a0 a1 a2 a3 tO tN
 go_loopw [58] (fun i wr=>∃ k:Nat,i=.int .i64 k/\k<=r/\Below w.heap.size w wr) (fun i _=>r - (intOf i).toNat)
 case atStart=>exact⟨0,rfl,Nat.zero_le _,H.below⟩
 case round =>
  clear H
  obtain⟨k,rfl,hk,HB⟩:=hrel
  by_cases hlt:k<r
  ·obtain⟨b,o,l,A2,n2,c2,rfl,hbb,hx,q1,q2,q3,hrf⟩:=hC.at_ hlt
   have hf3:=HR3.out k l hx.out
   have r1:=RdI.le1 hrf;have r2:=RdI.le2 hrf
   have g1:=keept q1 HB
   have g2:=keept q2 HB
   have g3:=keept q3 HB
   have HBx:Below w.heap.size w (wr.alloc (.cells #[.bool l.used,.int .i64 l.data,.slice A2 n2 c2] 68)):=HB.trans ((below_alloc wr _).mono HB.size)
   have HYk:=hid (HY.out k l hx.out)
   clear q1 q2 q3 hx
   go_wp2_with fail
   clear g1 g2 g3
   go_loopw [66] (fun i ws=>∃ j:Nat,i=.int .i64 j/\j<=n2/\Below w.heap.size w ws) (fun i _=>n2 - (intOf i).toNat)
   case atStart=>exact⟨0,rfl,Nat.zero_le _,HBx⟩
   case round =>
    obtain⟨j,rfl,hj,HBs⟩:=hrel
    by_cases hlj:j<n2
    ·obtain⟨b2,o2,y,rfl,hbb2,hx2,p1⟩:=RdI.at_ hrf hlj
     have hym:=List.mem_of_getElem? hx2.out
     have g4:=keept p1 HBs
     have HYy:=hid (fun h1 h2=>HYk.out h1 h2 y hym)
     have HOk2:=HO.out k
     have HNk2:=HN.out k
     clear p1 hx2 hym
     go_wp2_with fail
     refine (has_any S (k:Int) _ HL1.out).mono ?_
     rintro e w6 ⟨rfl,hw6⟩
     obtain rfl:=hw6
     rw[HOk2]
     cases ho:atB a.old k
     ·go_wp2
      go_roundw
      case rel=>exact⟨j+1,by go_num,by omega,HBs⟩
      case measure=>simp[intOf];omega
     ·go_wp2_with fail
      refine (has_any T (k:Int) _ HL2.out).mono ?_
      rintro e w7 ⟨rfl,hw7⟩
      obtain rfl:=hw7
      rw[HNk2]
      cases hn:atB a.noted k
      ·have HF:=hid (HYy.out ho hn)
       go_wp2_with fail
       refine (has_any Y y _ HL3.out).mono ?_
       rintro e w8 ⟨rfl,hw8⟩
       obtain rfl:=hw8
       rw[HF.out]
       go_wp2
       go_roundw
       case rel=>exact⟨j+1,by go_num,by omega,HBs⟩
       case measure=>simp[intOf];omega
      ·go_wp2
       go_roundw
       case rel=>exact⟨j+1,by go_num,by omega,HBs⟩
       case measure=>simp[intOf];omega
    ·go_wp2
     go_roundw
     case rel=>exact⟨k+1,by go_num,by omega,HBs⟩
     case measure=>simp[intOf];omega
  ·go_wp2
   go_ret
   exact⟨rfl,HB⟩
theorem bools_set {v:Value}{bs:List Bool}{q:Nat}{b:Bool}:OB.row 4 1 v bs.length ((bs.map Value.bool).set q (.bool b))=OB.bools v (bs.set q b):=by
 show _=OB.row _ _ _ (bs.set q b).length _
 rw[List.length_set,List.map_set]
theorem root_used {h:Hp}(g:Good h) {k:Int}(h0:0<=k) (h1:k<=3) (hp:0<=rootI h k):(rootI h k).toNat<h.cells.length/\usedN h.cells (rootI h k).toNat=true:=by
 have hm:=List.mem_of_getElem? (rootI_at g.roots h0 h1).out
 have hu:=leadsB_used (g.lead _ hm) hp
 exact⟨usedN_lt hu,hu⟩
theorem mark_has {a:Ag}(A:AgOk a) {o:Cmd}(h3:o.op=3) (b0:0<=o.b) (b1:o.b<=3):agMark a o=(atB a.old (rootI a.store o.a).toNat && hasB (ygM a) (rootI a.store o.b)):=by
 have h64:a.store.cells.length<=64:=by have:=(ag_small A).1;omega
 unfold agMark
 rw[decide_eq_true h3,Bool.true_and,Bool.and_assoc]
 congr 1
 by_cases hp:0<=rootI a.store o.b
 ·obtain⟨-,hu⟩:=root_used A.good b0 b1 hp
  unfold hasB
  rw[ygM_bit h64]
  unfold agYg
  rw[hu];simp
 ·rw[hasB_neg (by omega),decide_eq_false hp];rfl
theorem set_ops {o:Cmd}(hc:cmdOk o=true) (h3:o.op=3):(0<=o.a/\o.a<=3)/\0<=o.b/\o.b<=3:=by
 unfold cmdOk at hc
 rw[if_neg (by omega),if_neg (by omega),if_pos h3]at hc
 simp only[Bool.and_eq_true]at hc
 exact⟨inR_iff.1 hc.1.1,inR_iff.1 hc.1.2⟩
theorem set_root {h:Hp}{o:Cmd}(hp:possB h o=true) (h3:o.op=3):0<=rootI h o.a:=by
 unfold possB at hp
 rw[if_neg (by omega),if_pos h3]at hp
 unfold placeB at hp
 simp only[Bool.and_eq_true,decide_eq_true_eq]at hp
 exact hp.1
set_option maxHeartbeats 3200000 in
set_option maxRecDepth 20000 in
theorem barrier_own {lo:Nat}{w0 w:World}{L:List OB}{g:Nat}{C R V W:Option Addr}{kC kR kV kW:Nat}{rvs:List Value}{a:Ag}(H:Owns lo w0 w (.box g [.slice C a.store.cells.length kC,.slice R a.store.roots.length kR,.slice V a.old.length kV,.slice W a.noted.length kW] 64::.cells (.slice C a.store.cells.length kC) rvs a.store.cells::.ints (.slice R a.store.roots.length kR) a.store.roots::.bools (.slice V a.old.length kV) a.old::.bools (.slice W a.noted.length kW) a.noted::L)) (A:AgOk a) (o:Cmd) (hc:cmdOk o=true) (hp:possB a.store o=true):
  Calls Tryz.prog 182 #[.pointer (some ⟨g,0,none⟩),cmdV o] w fun e w'=>(∃ u,e=.returned u)/\Owns lo w0 w' (.box g [.slice C a.store.cells.length kC,.slice R a.store.roots.length kR,.slice V a.old.length kV,.slice W a.noted.length kW] 64::.cells (.slice C a.store.cells.length kC) rvs a.store.cells::.ints (.slice R a.store.roots.length kR) a.store.roots::.bools (.slice V a.old.length kV) a.old::.bools (.slice W a.noted.length kW) (agNote a o)::L):=by
 have H0:=H.box [.int .i64 o.op,.int .i64 o.a,.int .i64 o.b,.int .i64 o.c] 79
 have HD:=H0.drop 1
 simp only[List.drop_succ_cons,List.drop_zero]at HD
 clear H
 obtain⟨b0,b1,b2,b3,-,-,-,-⟩:=box4 H0 0 rfl
 by_cases h3:o.op=3
 rotate_left
 ·have k1:(o.op == 3)=false:=by simp[h3]
  have k2:(o.op != 3)=true:=by simp[h3]
  have HN:Hid (agNote a o=a.noted):=hid (by unfold agNote agMark;rw[decide_eq_false h3];rfl)
  clear h3
  go_enter Tryz.func182,Tryz.ntmps182
  go_wp2
  refine bodyPost_ret (results_none rfl _ _ _) rfl ?_
  exact⟨⟨_,rfl⟩,by rw[HN.out];exact HD⟩
 obtain⟨⟨a0,a1⟩,c0,c1⟩:=set_ops hc h3
 have hr0:=set_root hp h3
 have hMk:=mark_has A h3 c0 c1
 obtain⟨hq1,hq2⟩:=root_used A.good a0 a1 hr0
 obtain⟨q,hq⟩:=Int.eq_ofNat_of_zero_le hr0
 have HA:=rootI_at A.good.roots a0 a1
 have HB:=rootI_at A.good.roots c0 c1
 rw[hq]at hq1 hMk HA
 simp only[Int.toNat_natCast]at hq1 hMk
 obtain⟨y,hy⟩:∃ y,y=rootI a.store o.b:=⟨_,rfl⟩
 rw[<-hy]at HB hMk
 have hlr:4<=a.store.roots.length:=by rw[A.good.roots];exact Nat.le_refl _
 have hlo:a.store.cells.length<=a.old.length:=by rw[A.len1];exact Nat.le_refl _
 have hln:a.store.cells.length<=a.noted.length:=by rw[A.len2];exact Nat.le_refl _
 have HNt:Hid (agNote a o=if atB a.old q && hasB (ygM a) y then a.noted.set q true else a.noted):=hid (by unfold agNote;rw[hMk,hq];rfl)
 have HAg:=hid A
 have HYl:=hid (ygM_lt a)
 obtain⟨op,oa,ob,oc⟩:=o
 simp only at a0 a1 c0 c1 HA HB h3 b0 b1 b2 b3 H0 HD
 subst h3
 clear hr0 hq hMk hy hc hp hq2 A
 obtain⟨oa,rfl⟩:=Int.eq_ofNat_of_zero_le a0
 obtain⟨ob,rfl⟩:=Int.eq_ofNat_of_zero_le c0
 simp only[Int.toNat_natCast]at HA HB
 obtain⟨gR,cR,e,-,-,-,-⟩:=H0.rowAt 3 rfl (by omega)
 simp only[Value.slice.injEq,true_and]at e
 obtain⟨rfl,rfl⟩:=e
 obtain⟨gV,cV,e,-,-,-,-⟩:=H0.rowAt 4 rfl (by omega)
 simp only[Value.slice.injEq,true_and]at e
 obtain⟨rfl,rfl⟩:=e
 obtain⟨gW,cW,e,-,-,-,-⟩:=H0.rowAt 5 rfl (by omega)
 simp only[Value.slice.injEq,true_and]at e
 obtain⟨rfl,rfl⟩:=e
 obtain⟨x,hx⟩:∃ x,Hid (a.old[q]?=some x):=⟨_,hid (List.getElem?_eq_getElem (by omega))⟩
 have HXo:Hid (atB a.old q=x):=hid (atB_at hx.out)
 rw[HXo.out]at HNt
 have i1:(0:Int)<=(q:Int):=by omega
 have i2:(q:Int)<(a.old.length:Int):=by omega
 have i3:(q:Int)<(a.noted.length:Int):=by omega
 have i4:(oa:Int)<(a.store.roots.length:Int):=by omega
 have i5:(ob:Int)<(a.store.roots.length:Int):=by omega
 have i6:(0:Int)<=(oa:Int):=by omega
 have i7:(0:Int)<=(ob:Int):=by omega
 obtain⟨r0,-⟩:=H0.elem 3 rfl (j:=oa) (u:=.int .i64 (q:Int)) (by rw[List.getElem?_map,HA.out];rfl)
 obtain⟨r1,-⟩:=H0.elem 3 rfl (j:=ob) (u:=.int .i64 y) (by rw[List.getElem?_map,HB.out];rfl)
 obtain⟨v0,-⟩:=H0.elem 4 rfl (j:=q) (u:=.bool x) (by rw[List.getElem?_map,hx.out];rfl)
 obtain⟨g0,g1,g2,g3,-,-,-,-⟩:=box4 H0 1 rfl
 go_enter Tryz.func182,Tryz.ntmps182
 go_wp2_with fail
 have HX:=H0.drew
 have u0:(w.alloc (.cells #[.int .i64 3,.int .i64 (oa:Int),.int .i64 (ob:Int),.int .i64 oc] 79)).drew.cell? ⟨g,1,none⟩=some (.slice (some ⟨gR,0,none⟩) a.store.roots.length kR):=g1
 have u1:(w.alloc (.cells #[.int .i64 3,.int .i64 (oa:Int),.int .i64 (ob:Int),.int .i64 oc] 79)).drew.cell? ⟨w.heap.size,1,none⟩=some (.int .i64 (oa:Int)):=b1
 have u2:(w.alloc (.cells #[.int .i64 3,.int .i64 (oa:Int),.int .i64 (ob:Int),.int .i64 oc] 79)).drew.cell? ⟨gR,oa,none⟩=some (.int .i64 (q:Int)):=r0
 clear b0 b1 b2 b3 r0 r1 v0 g0 g1 g2 g3
 refine wp_region_tree (fun w'=>w'.cell? ⟨g,1,none⟩=some (.slice (some ⟨gR,0,none⟩) a.store.roots.length kR)/\w'.cell? ⟨w.heap.size,1,none⟩=some (.int .i64 (oa:Int))/\w'.cell? ⟨gR,oa,none⟩=some (.int .i64 (q:Int))) 10 [] (.take 0 (.take 1 (.take 2 (.take 3 (.take 4 (.take 5 (.take 6 (.take 7 (.take 8 (.take 9 (.done))))))))))) (by kernel_rfl) (by kernel_rfl) (by kernel_rfl) (⟨u0,u1,u2⟩) ?_
 simp only[fillT,lgz,Nat.reduceBEq]
 repeat first|(with_reducible apply po_take;(·(go_simp;done));(·(intro w' hS';(try dsimp only at hS');go_simp;try with_reducible rfl));simp only[lpa])|(with_reducible apply po_skip;(·(go_simp;done));simp only[lpa])
 refine po_done ?_
 clear u0 u1 u2
 go_wp2_with fail
 replace HX:=HX.drew
 cases x
 ·obtain⟨g0,g1,g2,g3,-,-,-,-⟩:=box4 HX 1 rfl
  obtain⟨r1,-⟩:=HX.elem 3 rfl (j:=ob) (u:=.int .i64 y) (by rw[List.getElem?_map,HB.out];rfl)
  obtain⟨v0,-⟩:=HX.elem 4 rfl (j:=q) (u:=.bool false) (by rw[List.getElem?_map,hx.out];rfl)
  obtain⟨b0,b1,b2,b3,-,-,-,-⟩:=box4 HX 0 rfl
  refine wp_region_tree (fun w'=>((w'.cell? ⟨g,0,none⟩=some (.slice C a.store.cells.length kC)/\w'.cell? ⟨g,1,none⟩=some (.slice (some ⟨gR,0,none⟩) a.store.roots.length kR))/\w'.cell? ⟨g,2,none⟩=some (.slice (some ⟨gV,0,none⟩) a.old.length kV)/\w'.cell? ⟨g,3,none⟩=some (.slice (some ⟨gW,0,none⟩) a.noted.length kW))/\(w'.cell? ⟨gV,q,none⟩=some (.bool false)/\w'.cell? ⟨w.heap.size,2,none⟩=some (.int .i64 (ob:Int)))/\w'.cell? ⟨gR,ob,none⟩=some (.int .i64 y)) 23 [] (.take 0 (.take 1 (.take 2 (.take 3 (.take 4 (.take 5 (.take 6 (.take 7 (.take 8 (.take 9 (.take 10 (.take 12 (.take 13 (.take 14 (.take 15 (.take 16 (.take 17 (.take 18 (.take 19 (.take 20 (.alt 11 (.alt 21 (.take 22 (.done)) (.stop)) (.stop)))))))))))))))))))))) (by kernel_rfl) (by kernel_rfl) (by kernel_rfl) (⟨⟨⟨g0,g1⟩,g2,g3⟩,⟨v0,b2⟩,r1⟩) ?_
  simp only[fillT,lgz,Nat.reduceBEq]
  repeat first|(with_reducible apply po_take;(·(go_simp;done));(·(intro w' hS';(try dsimp only at hS');go_simp;try with_reducible rfl));simp only[lpa])|(with_reducible apply po_skip;(·(go_simp;done));simp only[lpa])
  with_reducible refine po_no ?_ ?_ ?_ ?_
  ·(go_simp;done)
  ·exact .inr (⟨⟨⟨g0,g1⟩,g2,g3⟩,⟨v0,b2⟩,r1⟩)
  rotate_left
  ·exact po_stop
  simp only[lpa]
  with_reducible refine po_no ?_ ?_ ?_ ?_
  ·(go_simp;done)
  ·exact .inr (⟨⟨⟨g0,g1⟩,g2,g3⟩,⟨v0,b2⟩,r1⟩)
  rotate_left
  ·exact po_stop
  simp only[lpa]
  repeat first|(with_reducible apply po_take;(·(go_simp;done));(·(intro w' hS';(try dsimp only at hS');go_simp;try with_reducible rfl));simp only[lpa])|(with_reducible apply po_skip;(·(go_simp;done));simp only[lpa])
  refine po_done ?_
  have HD:=HX.drop 1
  simp only[List.drop_succ_cons,List.drop_zero]at HD
  have HNo:Hid (agNote a ⟨3,oa,ob,oc⟩=a.noted):=hid (by rw[HNt.out];rfl)
  clear g0 g1 g2 g3 r1 v0 b0 b1 b2 b3 HX
  go_wp2
  refine bodyPost_end (results_none rfl _ _ _) rfl ?_
  exact⟨⟨_,rfl⟩,by rw[HNo.out];exact HD⟩
 ·obtain⟨g0,g1,g2,g3,-,-,-,-⟩:=box4 HX 1 rfl
  obtain⟨r1,-⟩:=HX.elem 3 rfl (j:=ob) (u:=.int .i64 y) (by rw[List.getElem?_map,HB.out];rfl)
  obtain⟨v0,-⟩:=HX.elem 4 rfl (j:=q) (u:=.bool true) (by rw[List.getElem?_map,hx.out];rfl)
  obtain⟨b0,b1,b2,b3,-,-,-,-⟩:=box4 HX 0 rfl
  refine wp_region_tree (fun w'=>((w'.cell? ⟨g,0,none⟩=some (.slice C a.store.cells.length kC)/\w'.cell? ⟨g,1,none⟩=some (.slice (some ⟨gR,0,none⟩) a.store.roots.length kR))/\w'.cell? ⟨g,2,none⟩=some (.slice (some ⟨gV,0,none⟩) a.old.length kV)/\w'.cell? ⟨g,3,none⟩=some (.slice (some ⟨gW,0,none⟩) a.noted.length kW))/\(w'.cell? ⟨gV,q,none⟩=some (.bool true)/\w'.cell? ⟨w.heap.size,2,none⟩=some (.int .i64 (ob:Int)))/\w'.cell? ⟨gR,ob,none⟩=some (.int .i64 y)) 23 [] (.take 0 (.take 1 (.take 2 (.take 3 (.take 4 (.take 5 (.take 6 (.take 7 (.take 8 (.take 9 (.take 10 (.take 12 (.take 13 (.take 14 (.take 15 (.take 16 (.take 17 (.take 18 (.take 19 (.take 20 (.alt 11 (.alt 21 (.take 22 (.done)) (.stop)) (.stop)))))))))))))))))))))) (by kernel_rfl) (by kernel_rfl) (by kernel_rfl) (⟨⟨⟨g0,g1⟩,g2,g3⟩,⟨v0,b2⟩,r1⟩) ?_
  simp only[fillT,lgz,Nat.reduceBEq]
  repeat first|(with_reducible apply po_take;(·(go_simp;done));(·(intro w' hS';(try dsimp only at hS');go_simp;try with_reducible rfl));simp only[lpa])|(with_reducible apply po_skip;(·(go_simp;done));simp only[lpa])
  with_reducible refine po_last ?_ (fun K hK=>?_)
  ·(go_simp;done)
  go_simp
  refine (young_any _ _ _ a (HX.rdAg 2 3 4 5 rfl rfl rfl rfl) HAg.out).mono ?_
  rintro e w2 ⟨rfl,hb⟩
  replace HX:=HX.call hb
  clear hb g0 g1 g2 g3 r1 v0 b0 b1 b2 b3
  obtain⟨g0,g1,g2,g3,-,-,-,-⟩:=box4 HX 1 rfl
  obtain⟨r1,-⟩:=HX.elem 3 rfl (j:=ob) (u:=.int .i64 y) (by rw[List.getElem?_map,HB.out];rfl)
  obtain⟨v0,-⟩:=HX.elem 4 rfl (j:=q) (u:=.bool true) (by rw[List.getElem?_map,hx.out];rfl)
  obtain⟨b0,b1,b2,b3,-,-,-,-⟩:=box4 HX 0 rfl
  refine hK.out _ _ (.inr (⟨⟨⟨g0,g1⟩,g2,g3⟩,⟨v0,b2⟩,r1⟩)) ?_
  clear hK K
  with_reducible refine po_last ?_ (fun K hK=>?_)
  ·(go_simp;done)
  go_simp
  refine (has_any (ygM a) y _ HYl.out).mono ?_
  rintro e w3 ⟨rfl,hw3⟩
  obtain rfl:=hw3
  refine hK.out _ _ (.inr (⟨⟨⟨g0,g1⟩,g2,g3⟩,⟨v0,b2⟩,r1⟩)) ?_
  clear hK K
  repeat first|(with_reducible apply po_take;(·(go_simp;done));(·(intro w' hS';(try dsimp only at hS');go_simp;try with_reducible rfl));simp only[lpa])|(with_reducible apply po_skip;(·(go_simp;done));simp only[lpa])
  refine po_done ?_
  cases hm:hasB (ygM a) y
  ·have HD:=HX.drop 1
   simp only[List.drop_succ_cons,List.drop_zero]at HD
   have HNo:Hid (agNote a ⟨3,oa,ob,oc⟩=a.noted):=hid (by rw[HNt.out,hm];rfl)
   clear g0 g1 g2 g3 r1 v0 b0 b1 b2 b3 HX hm
   go_wp2
   refine bodyPost_end (results_none rfl _ _ _) rfl ?_
   exact⟨⟨_,rfl⟩,by rw[HNo.out];exact HD⟩
  ·obtain⟨z,hz⟩:∃ z,a.noted[q]?=some z:=⟨_,List.getElem?_eq_getElem (by omega)⟩
   obtain⟨n0,nf⟩:=HX.elem 5 rfl (j:=q) (u:=.bool z) (by rw[List.getElem?_map,hz];rfl)
   have HZ:=(HX.putRow 5 rfl q (.bool true)).drop 1
   simp only[lsz,List.drop_succ_cons,List.drop_zero]at HZ
   have HNo:Hid (agNote a ⟨3,oa,ob,oc⟩=a.noted.set q true):=hid (by rw[HNt.out,hm];rfl)
   rw[bools_set]at HZ
   clear r1 v0 b0 b1 b2 b3 HX hm hz
   go_wp2
   refine bodyPost_end (results_none rfl _ _ _) rfl ?_
   exact⟨⟨_,rfl⟩,by rw[HNo.out];exact HZ⟩
theorem agStep_can (a:Ag) (o:Cmd):agStep a o=if canB a.store o then ⟨mDo a.store o (mFree a.store),agGrow (mDo a.store o (mFree a.store)).cells.length a.old,agGrow (mDo a.store o (mFree a.store)).cells.length (agNote a o)⟩ else a:=rfl
theorem mDo_len1 {h:Hp}{o:Cmd}{p:Nat}(hp:p<=h.cells.length):h.cells.length<=(mDo h o p).cells.length/\(mDo h o p).cells.length<=h.cells.length+1:=by
 refine⟨mDo_grows hp,?_⟩
 by_cases h1:o.op=1
 ·unfold mDo
  rw[if_pos h1]
  have:=putCel_len (newCel o) hp
  show (putCel h.cells p (newCel o)).length<=_
  unfold putCel
  split
  ·simp
  ·simp
 ·rw[(mDo_len hp).2.1 h1];omega
set_option maxHeartbeats 6400000 in
set_option maxRecDepth 20000 in
theorem implStepAged_any (w:World) (B:Nat) (v:Value) (a:Ag) (hh:RdAg w B v a) (o:Cmd) (A:AgOk a) (hc:cmdOk o=true):
  Calls Tryz.prog 178 #[v,cmdV o] w (MadeAgB w (agStep a o)):=by
 have hh':=hh.top
 obtain⟨D,m,d,D',m',d',E,q,f,F,r,x,rfl,hC,hR,hE,hF⟩:=hh.top
 have HA:=hid A
 have HCo:=hid hc
 have hst:RdH w w.heap.size (.agg #[.slice D m d,.slice D' m' d']) a.store:=⟨_,_,_,_,_,_,rfl,hC,hR⟩
 have s4:a.store.cells.length<=1048576:=by have:=(ag_small A).1;omega
 have H:=(((Owns.nil w).box [.slice D m d,.slice D' m' d',.slice E q f,.slice F r x] 64).box [.int .i64 o.op,.int .i64 o.a,.int .i64 o.b,.int .i64 o.c] 79).box [.slice none 0 0,.slice none 0 0,.slice none 0 0,.slice none 0 0] 64
 simp only[lnm]at H
 obtain⟨a0,a1,a2,a3,-,-,-,-⟩:=box4 H 2 rfl
 clear A hc
 go_enter Tryz.func178,Tryz.ntmps178
 go_wp2_with fail
 refine (implAgedValid_yes _ _ _ a (hh'.below H.below) HA.out).mono ?_
 rintro e w1 ⟨rfl,hb⟩
 replace H:=H.call hb
 clear hb a0 a1 a2 a3
 obtain⟨b0,b1,b2,b3,-,-,-,-⟩:=box4 H 1 rfl
 go_wp2_with fail
 refine (implCommandValid_any o _).mono ?_
 rintro e w2 ⟨rfl,hb⟩
 rw[HCo.out]
 replace H:=H.call hb
 clear hb b0 b1 b2 b3
 obtain⟨a0,a1,a2,a3,-,-,-,-⟩:=box4 H 2 rfl
 go_wp2_with fail
 refine (copyAged_any _ _ _ a (hh'.below H.below) HA.out).mono ?_
 rintro e w3 ⟨cv,rvs,rv,ov,nv,rfl,K⟩
 replace K:=H.merge K
 simp only[lca]at K
 obtain⟨C,kC,rfl,-⟩:=K.formC 0 rfl
 obtain⟨R,kR,rfl,-⟩:=K.formI 1 rfl
 obtain⟨V,kV,rfl,-⟩:=K.formB 2 rfl
 obtain⟨W,kW,rfl,-⟩:=K.formB 3 rfl
 clear H a0 a1 a2 a3
 replace K:=K.box [.slice C a.store.cells.length kC,.slice R a.store.roots.length kR,.slice V a.old.length kV,.slice W a.noted.length kW] 64
 obtain⟨a0,a1,a2,a3,-,-,-,-⟩:=box4 K 7 rfl
 obtain⟨b0,b1,b2,b3,-,-,-,-⟩:=box4 K 6 rfl
 go_wp2_with fail
 refine (canStep_any _ _ _ a.store (hst.below K.below) o HA.out.good HCo.out).mono ?_
 rintro e w4 ⟨rfl,hb⟩
 replace K:=K.call hb
 clear hb a0 a1 a2 a3 b0 b1 b2 b3
 have HS:=hid (agStep_can a o)
 cases hb:canB a.store o
 ·rw[hb]at HS
  have HT:Hid (agStep a o=a):=HS
  obtain⟨a0,a1,a2,a3,-,-,-,-⟩:=box4 K 0 rfl
  obtain⟨y0,y1,y2,y3,y4,y5,y6,y7⟩:=box4 K 5 rfl
  have HZ:=(((K.putBox 5 rfl 0 (.slice C a.store.cells.length kC)).putBox 5 rfl 1 (.slice R a.store.roots.length kR)).putBox 5 rfl 2 (.slice V a.old.length kV)).putBox 5 rfl 3 (.slice W a.noted.length kW)
  simp only[lsz]at HZ
  obtain⟨z0,z1,z2,z3,-,-,-,-⟩:=box4 HZ 5 rfl
  have HQ:Hid (MadeAgB w (agStep a o) (.returned (.tuple #[.agg #[.slice C a.store.cells.length kC,.slice R a.store.roots.length kR,.slice V a.old.length kV,.slice W a.noted.length kW],.bool false])) _):=hid (by rw[HT.out];exact⟨_,rvs,_,_,_,_,rfl,HZ.order [1,2,3,4] (by decide) rfl⟩)
  clear hb HS HZ K
  go_wp2
  exact bodyPost_ret (by simp[results,Tryz.results178,go_sem,z0,z1,z2,z3]) rfl HQ.out
 ·rw[hb]at HS
  have HT:Hid (agStep a o=⟨mDo a.store o (mFree a.store),agGrow (mDo a.store o (mFree a.store)).cells.length a.old,agGrow (mDo a.store o (mFree a.store)).cells.length (agNote a o)⟩):=HS
  have HP:=hid (can_poss hb).1
  have HLn:=hid (mDo_len1 (o:=o) (mFree_le a.store))
  clear hb HS
  obtain⟨b0,b1,b2,b3,-,-,-,-⟩:=box4 K 6 rfl
  go_wp2_with fail
  refine (barrier_own K HA.out o HCo.out HP.out).mono ?_
  rintro e w5 ⟨⟨u,rfl⟩,K2⟩
  have hnl:(agNote a o).length<=a.noted.length:=by rw[note_len];exact Nat.le_refl _
  have hnm:a.noted.length<=(agNote a o).length:=by rw[note_len];exact Nat.le_refl _
  have ho1:a.old.length<=a.store.cells.length:=by rw[HA.out.len1];exact Nat.le_refl _
  have ho2:a.store.cells.length<=a.old.length:=by rw[HA.out.len1];exact Nat.le_refl _
  have hn1:a.noted.length<=a.store.cells.length:=by rw[HA.out.len2];exact Nat.le_refl _
  have hn2:a.store.cells.length<=a.noted.length:=by rw[HA.out.len2];exact Nat.le_refl _
  have h40:a.store.cells.length<=40:=(ag_small HA.out).1
  obtain⟨NN,hNN⟩:∃ NN,NN=agNote a o:=⟨_,rfl⟩
  rw[<-hNN]at K2 HT hnl hnm
  clear K b0 b1 b2 b3 hNN
  go_wp2_with fail
  have HX:=K2.drew
  clear K2
  obtain⟨x0,x1,x2,x3,-,-,-,-⟩:=box4 HX 7 rfl
  obtain⟨b0,b1,b2,b3,-,-,-,-⟩:=box4 HX 6 rfl
  refine wp_region_tree (fun w'=>(w'.cell? ⟨w.heap.size,0,none⟩=some (.slice D m d)/\w'.cell? ⟨w.heap.size,1,none⟩=some (.slice D' m' d'))/\(w'.cell? ⟨w.heap.size+1,0,none⟩=some (.int .i64 o.op)/\w'.cell? ⟨w.heap.size+1,1,none⟩=some (.int .i64 o.a))/\w'.cell? ⟨w.heap.size+1,2,none⟩=some (.int .i64 o.b)/\w'.cell? ⟨w.heap.size+1,3,none⟩=some (.int .i64 o.c)) 8 [] (.take 0 (.take 1 (.take 2 (.take 3 (.take 4 (.alt 5 (.alt 6 (.take 7 (.alt 8 (.done) (.stop))) (.stop)) (.stop))))))) (by kernel_rfl) (by kernel_rfl) (by kernel_rfl) (⟨⟨x0,x1⟩,⟨b0,b1⟩,b2,b3⟩) ?_
  simp only[fillT,lgz,Nat.reduceBEq]
  repeat first|(with_reducible apply po_take;(·(go_simp;done));(·(intro w' hS';(try dsimp only at hS');go_simp;try with_reducible rfl));simp only[lpa])|(with_reducible apply po_skip;(·(go_simp;done));simp only[lpa])
  with_reducible refine po_last ?_ (fun K hK=>?_)
  ·(go_simp;done)
  go_simp
  refine (freePlace_any _ _ _ a.store (hst.below HX.below) s4).mono ?_
  rintro e w6 ⟨rfl,hb⟩
  replace HX:=HX.call hb
  clear hb x0 x1 x2 x3 b0 b1 b2 b3
  obtain⟨x0,x1,x2,x3,-,-,-,-⟩:=box4 HX 7 rfl
  obtain⟨b0,b1,b2,b3,-,-,-,-⟩:=box4 HX 6 rfl
  refine hK.out _ _ (.inr (⟨⟨x0,x1⟩,⟨b0,b1⟩,b2,b3⟩)) ?_
  clear hK K
  with_reducible refine po_last ?_ (fun K hK=>?_)
  ·(go_simp;done)
  go_simp
  refine (execute_any _ _ _ a.store (hst.below HX.below) o HA.out.good HCo.out HP.out (mFree a.store) (mFree_le a.store)).mono ?_
  rintro e w7 ⟨cv,rvs',rv,rfl,HY⟩
  replace HY:=HX.merge HY
  simp only[lca]at HY
  obtain⟨T,hT⟩:∃ T,T=mDo a.store o (mFree a.store):=⟨_,rfl⟩
  rw[<-hT]at HY HT HLn
  obtain⟨C',kC',rfl,-⟩:=HY.formC 0 rfl
  obtain⟨R',kR',rfl,-⟩:=HY.formI 1 rfl
  clear hT HX x0 x1 x2 x3 b0 b1 b2 b3
  obtain⟨x0,x1,x2,x3,-,-,-,-⟩:=box4 HY 9 rfl
  obtain⟨b0,b1,b2,b3,-,-,-,-⟩:=box4 HY 8 rfl
  refine hK.out _ _ (.inr (⟨⟨x0,x1⟩,⟨b0,b1⟩,b2,b3⟩)) ?_
  clear hK K
  repeat first|(with_reducible apply po_take;(·(go_simp;done));(·(intro w' hS';(try dsimp only at hS');go_simp;try with_reducible rfl));simp only[lpa])|(with_reducible apply po_skip;(·(go_simp;done));simp only[lpa])
  with_reducible refine po_last ?_ (fun K hK=>?_)
  ·(go_simp;done)
  obtain⟨y0,y1,y2,y3,y4,y5,y6,y7⟩:=box4 HY 2 rfl
  go_simp
  have HZ:=((HY.putBox 2 rfl 0 (.slice C' T.cells.length kC')).putBox 2 rfl 1 (.slice R' T.roots.length kR')).places [2,0,1,5,6,7] (by decide) (by simp)
  simp only[lfm,lsz]at HZ
  refine hK.out _ _ (.inl rfl) ?_
  clear hK K
  refine po_done ?_
  clear HY x0 x1 x2 x3 b0 b1 b2 b3 y0 y1 y2 y3 y4 y5 y6 y7
  obtain⟨hl1,hl2⟩:=HLn.out
  generalize World.setCell _ _ _=wz at HZ⊢
  have HT2:Hid (agStep a o=⟨T,agGrow T.cells.length a.old,agGrow T.cells.length NN⟩):=HT
  by_cases hg:a.old.length<T.cells.length
  ·have HG:Hid (agGrow T.cells.length a.old=a.old++[false]/\agGrow T.cells.length NN=NN++[false]):=hid (by unfold agGrow;rw[if_pos hg,if_pos (by omega)];exact⟨rfl,rfl⟩)
   have i1:(a.old.length:Int)<(T.cells.length:Int):=by omega
   clear hg HT HLn hl1 hl2
   have H1:=HZ.litB [false] one_le_maxLen
   simp only[lml]at H1
   obtain⟨y0,y1,y2,y3,-,-,-,-⟩:=box4 HZ 0 rfl
   obtain⟨x0,x1,x2,x3,x4,x5,x6,x7⟩:=box4 H1 1 rfl
   clear HZ
   go_upto_region 10 with (at_builtin;go_loud (refine wpList_pushBO rfl (.tmp 43) (.tmp 44) rfl H1 4 rfl rfl rfl (H1.owB 0 rfl).rdB (by omega) ?_;intro A3 k3 w8 H2;simp only[lsz]at H2;generalize hM:a.old++[false]=M at *;clear x0 x1 x2 x3 x4 x5 x6 x7 y0 y1 y2 y3;obtain⟨x0,x1,x2,x3,x4,x5,x6,x7⟩:=box4 H2 1 rfl))
   have H3:=(H2.putBox 1 rfl 2 (.slice A3 M.length k3)).drop 1
   simp only[lsz,List.drop_succ_cons,List.drop_zero]at H3
   clear H1 H2 x0 x1 x2 x3 x4 x5 x6 x7
   generalize World.setCell _ _ _=wy at H3⊢
   have H4:=H3.litB [false] one_le_maxLen
   simp only[lml]at H4
   obtain⟨y0,y1,y2,y3,-,-,-,-⟩:=box4 H3 0 rfl
   obtain⟨x0,x1,x2,x3,x4,x5,x6,x7⟩:=box4 H4 1 rfl
   clear H3
   go_upto_region 11 with (at_builtin;go_loud (refine wpList_pushBO rfl (.tmp 48) (.tmp 49) rfl H4 5 rfl rfl rfl (H4.owB 0 rfl).rdB (by omega) ?_;intro A6 k6 w9 H5;simp only[lsz]at H5;generalize hP:NN++[false]=P at *;clear x0 x1 x2 x3 x4 x5 x6 x7 y0 y1 y2 y3;obtain⟨x0,x1,x2,x3,x4,x5,x6,x7⟩:=box4 H5 1 rfl))
   have H6:=(H5.putBox 1 rfl 3 (.slice A6 P.length k6)).drop 1
   simp only[lsz,List.drop_succ_cons,List.drop_zero]at H6
   clear H4 H5 x0 x1 x2 x3 x4 x5 x6 x7
   generalize World.setCell _ _ _=wx at H6⊢
   obtain⟨x0,x1,x2,x3,-,-,-,-⟩:=box4 H6 0 rfl
   obtain⟨y0,y1,y2,y3,y4,y5,y6,y7⟩:=box4 H6 5 rfl
   have HZ:=(((H6.putBox 5 rfl 0 (.slice C' T.cells.length kC')).putBox 5 rfl 1 (.slice R' T.roots.length kR')).putBox 5 rfl 2 (.slice A3 M.length k3)).putBox 5 rfl 3 (.slice A6 P.length k6)
   simp only[lsz]at HZ
   obtain⟨z0,z1,z2,z3,-,-,-,-⟩:=box4 HZ 5 rfl
   have HQ:Hid (MadeAgB w (agStep a o) (.returned (.tuple #[.agg #[.slice C' T.cells.length kC',.slice R' T.roots.length kR',.slice A3 M.length k3,.slice A6 P.length k6],.bool true])) _):=hid (by rw[HT2.out,HG.out.1,HG.out.2];exact⟨_,rvs',_,_,_,_,rfl,HZ.order [1,2,3,4] (by decide) rfl⟩)
   clear HZ H6
   go_wp2
   exact bodyPost_ret (by simp[results,Tryz.results178,go_sem,z0,z1,z2,z3]) rfl HQ.out
  ·have HG:Hid (agGrow T.cells.length a.old=a.old/\agGrow T.cells.length NN=NN):=hid (by unfold agGrow;rw[if_neg hg,if_neg (by omega)];exact⟨rfl,rfl⟩)
   have i1:¬ (a.old.length:Int)<(T.cells.length:Int):=by omega
   clear hg HT HLn hl1 hl2
   obtain⟨x0,x1,x2,x3,-,-,-,-⟩:=box4 HZ 0 rfl
   obtain⟨y0,y1,y2,y3,y4,y5,y6,y7⟩:=box4 HZ 5 rfl
   have HY:=(((HZ.putBox 5 rfl 0 (.slice C' T.cells.length kC')).putBox 5 rfl 1 (.slice R' T.roots.length kR')).putBox 5 rfl 2 (.slice V a.old.length kV)).putBox 5 rfl 3 (.slice W a.noted.length kW)
   simp only[lsz]at HY
   obtain⟨z0,z1,z2,z3,-,-,-,-⟩:=box4 HY 5 rfl
   have HQ:Hid (MadeAgB w (agStep a o) (.returned (.tuple #[.agg #[.slice C' T.cells.length kC',.slice R' T.roots.length kR',.slice V a.old.length kV,.slice W a.noted.length kW],.bool true])) _):=hid (by rw[HT2.out,HG.out.1,HG.out.2];exact⟨_,rvs',_,_,_,_,rfl,HY.order [1,2,3,4] (by decide) rfl⟩)
   clear HZ HY
   go_wp2
   exact bodyPost_ret (by simp[results,Tryz.results178,go_sem,z0,z1,z2,z3]) rfl HQ.out
set_option maxRecDepth 20000 in
theorem upon_makeB {lo:Nat}{w0 w:World}{L:List OB}{o:Oper}{a:Act}{K:Act->World->Prop}{Q:Exit->Act->World->Prop}
  (h:Owns lo w0 w L) (kl kc:IntKind) (C1 C2:Int) (n:Nat) (h1:C1=(n:Int)) (h2:C2=(n:Int)) (hn:n<=1048577)
  (hK:∀ g w',Owns lo w0 w' (.bools (.slice (some ⟨g,0,none⟩) n n) (List.replicate n false)::L)->Below w.heap.size w w'->K (a.put o.dst (.slice (some ⟨g,0,none⟩) n n)) w'):
  Oper.upon Tryz.prog o a K Q ((Sem.run Tryz.prog (Instr.makeSlice 62 (.int kl C1) (.int kc C2)) w).andThen fun a w'=>Result.ok (Next.value a) w'):=by
 subst h1 h2
 have hrun:=run_make_row' (P:=Tryz.prog) 62 4 (.bool false) 1 Tryz.underlying62 Tryz.infoBool rfl kl kc n (by omega) (by omega) w
 have key:∀ m,m=(List.replicate n false).length->Owns lo w0 (w.alloc (.cells ((List.replicate n false).map Value.bool).toArray 4)) (.bools (.slice (some ⟨w.heap.size,0,none⟩) m m) (List.replicate n false)::L):=by
  rintro m rfl
  exact h.litB _ (by simp;unfold maxLen;omega)
 have he:madeCells #[Value.bool false] n=((List.replicate n false).map Value.bool).toArray:=by
  apply Array.ext'
  rw[toList_madeCells_one,List.map_replicate]
 rw[he]at hrun
 have hO:=key n (by simp)
 have hF:=hK w.heap.size _ hO (below_alloc _ _)
 exact upon_ok hrun hF
set_option maxHeartbeats 3200000 in
set_option maxRecDepth 20000 in
theorem keep_any (w:World) (B:Nat) (v:Value) (a:Ag) (hh:RdAg w B v a) (A:AgOk a) (M:Nat) (hM:M=setM (agKeep a)):
  Calls Tryz.prog 183 #[v,.int .u64 M] w (MadeAgN w (agYoung a)):=by
 obtain⟨D,m,d,D',m',d',E,q,f,F,r,x,rfl,hC,hR,hE,hF⟩:=hh.top
 obtain⟨t1,t2,t3,t4,HN3⟩:=ag_small A
 have hst:RdH w w.heap.size (.agg #[.slice D m d,.slice D' m' d']) a.store:=⟨_,_,_,_,_,_,rfl,hC,hR⟩
 have h64:a.store.cells.length<=64:=by omega
 have HM:Hid (M<2 ^ 64):=hid (by rw[hM];exact setM_lt64 (by rw[agKeep_len];exact h64))
 obtain⟨U,hU⟩:∃ U,U=usedM a.store.cells:=⟨_,rfl⟩
 have tO0:=bits_andNot U M
 obtain⟨O,hO⟩:∃ O,O=lessB U M:=⟨_,rfl⟩
 rw[<-hO]at tO0
 have tO:Go.bits .andNot .u64 (U:Int) (M:Int)=(O:Int):=tO0
 have HO:Hid (O<2 ^ 64):=hid (by rw[hO];exact lessB_lt _ _)
 obtain⟨Y,hY⟩:∃ Y,Y=agYoung a:=⟨_,rfl⟩
 have HCe:Hid (wipeTo O a.store.cells a.store.cells.length=Y.store.cells/\a.store.roots=Y.store.roots/\(List.range a.store.cells.length).map M.testBit=Y.old/\List.replicate a.store.cells.length false=Y.noted):=hid (by
  rw[hY,hO,hU,hM]
  exact⟨sweep_cells (good_iff.2 A.good) (agKeep_len a),rfl,agKeep_list a,rfl⟩)
 have HUe:=hid hU
 rw[<-hY]
 have H:=((Owns.nil w).box [.slice D m d,.slice D' m' d',.slice E q f,.slice F r x] 64).box [.slice none 0 0,.slice none 0 0,.slice none 0 0,.slice none 0 0] 64
 simp only[lnm]at H
 obtain⟨a0,a1,a2,a3,-,-,-,-⟩:=box4 H 1 rfl
 clear A hM hU hO tO0 hY
 go_enter Tryz.func183,Tryz.ntmps183
 go_wp2_with fail
 refine (copyHeap_any _ _ _ a.store (hst.below H.below) (by omega) (by omega) HN3.out).mono ?_
 rintro e w1 ⟨v1,rfl,ho,hb⟩
 obtain⟨cv,rvs,rv,rfl,K⟩:=H.madeH ho hb
 obtain⟨C,kC,rfl,-⟩:=K.formC 0 rfl
 obtain⟨R,kR,rfl,-⟩:=K.formI 1 rfl
 replace K:=(K.box [.slice C a.store.cells.length kC,.slice R a.store.roots.length kR] 29).take 4
 simp only[List.take_succ_cons,List.take_zero]at K
 clear H ho hb a0 a1 a2 a3
 obtain⟨x0,x1,-,-⟩:=K.box2 0 rfl
 go_wp2_with fail
 refine (usedSet_any _ _ _ a.store (K.rdH 1 2 rfl rfl) h64).mono ?_
 rintro e w2 ⟨he,hb⟩
 rw[<-HUe.out]at he
 subst he
 replace K:=K.call hb
 clear hb x0 x1
 go_wp2_with fail
 refine (freeCells_own K HO.out (by omega)).mono ?_
 rintro e w3 ⟨rfl,rvs',K2⟩
 rw[HCe.out.1]at K2
 have hl1:a.store.cells.length<=Y.store.cells.length:=by rw[<-HCe.out.1];simp[wipeTo]
 have hl2:Y.store.cells.length<=a.store.cells.length:=by rw[<-HCe.out.1];simp[wipeTo]
 generalize cntTo O a.store.cells a.store.cells.length=fn at *
 clear K
 go_wp2_with fail
 have HX:=K2.drew
 clear K2
 obtain⟨x0,x1,-,-⟩:=HX.box2 0 rfl
 refine wp_region_tree (fun w'=>w'.cell? ⟨w1.heap.size,0,none⟩=some (.slice C a.store.cells.length kC)/\w'.cell? ⟨w1.heap.size,1,none⟩=some (.slice R a.store.roots.length kR)) 14 [] (.take 0 (.take 1 (.take 2 (.take 3 (.take 4 (.take 6 (.take 7 (.take 8 (.take 11 (.alt 5 (.alt 9 (.take 10 (.alt 12 (.take 13 (.done)) (.stop))) (.stop)) (.alt 9 (.alt 5 (.take 10 (.alt 12 (.take 13 (.done)) (.stop))) (.stop)) (.stop)))))))))))) (by kernel_rfl) (by kernel_rfl) (by kernel_rfl) (⟨x0,x1⟩) ?_
 simp only[fillT,lgz,Nat.reduceBEq]
 repeat first|(with_reducible apply po_take;(·(go_simp;done));(·(intro w' hS';(try dsimp only at hS');go_simp;try with_reducible rfl));simp only[lpa])|(with_reducible apply po_skip;(·(go_simp;done));simp only[lpa])
 with_reducible refine po_run ?_ (fun K hK=>?_) ?_
 ·(go_simp;done)
 ·
  go_simp
  refine (list_any M a.store.cells.length _ HM.out (by omega)).mono ?_
  rintro e w4 ⟨v4,rfl,ho,hb⟩
  rw[HCe.out.2.2.1]at ho
  have HY:=HX.madeB ho hb
  obtain⟨V,kV,rfl,-⟩:=HY.formB 0 rfl
  clear HX
  have HX:=HY
  clear HY
  replace x0:=keept x0 hb
  replace x1:=keept x1 hb
  clear ho hb
  refine hK.out _ _ (.inr (⟨x0,x1⟩)) ?_
  clear hK K
  with_reducible refine po_last ?_ (fun K hK=>?_)
  ·(go_simp;done)
  go_simp
  refine upon_makeB HX _ _ _ _ a.store.cells.length rfl rfl (by omega) ?_
  intro gN w5 HY hb
  rw[HCe.out.2.2.2]at HY
  replace x0:=keept x0 hb
  replace x1:=keept x1 hb
  clear HX
  have HX:=HY
  clear HY hb
  refine hK.out _ _ (.inr (⟨x0,x1⟩)) ?_
  clear hK K
  repeat first|(with_reducible apply po_take;(·(go_simp;done));(·(intro w' hS';(try dsimp only at hS');go_simp;try with_reducible rfl));simp only[lpa])|(with_reducible apply po_skip;(·(go_simp;done));simp only[lpa])
  with_reducible refine po_last ?_ (fun K hK=>?_)
  ·(go_simp;done)
  have HW:=HX
  obtain⟨y0,y1,y2,y3,y4,y5,y6,y7⟩:=box4 HW 5 rfl
  go_simp
  have HZ:=(((HW.putBox 5 rfl 0 (.slice C a.store.cells.length kC)).putBox 5 rfl 1 (.slice R a.store.roots.length kR)).putBox 5 rfl 2 (.slice V Y.old.length kV)).putBox 5 rfl 3 (.slice (some ⟨gN,0,none⟩) a.store.cells.length a.store.cells.length)
  simp only[lsz]at HZ
  clear x0 x1
  obtain⟨x0,x1,-,-⟩:=HZ.box2 2 rfl
  refine hK.out _ _ (.inr (⟨x0,x1⟩)) ?_
  clear hK K
  repeat first|(with_reducible apply po_take;(·(go_simp;done));(·(intro w' hS';(try dsimp only at hS');go_simp;try with_reducible rfl));simp only[lpa])|(with_reducible apply po_skip;(·(go_simp;done));simp only[lpa])
  refine po_done ?_
  obtain⟨z0,z1,z2,z3,-,-,-,-⟩:=box4 HZ 5 rfl
  have HQ:Hid (MadeAgN w Y (.returned (.tuple #[.agg #[.slice C a.store.cells.length kC,.slice R a.store.roots.length kR,.slice V Y.old.length kV,.slice (some ⟨gN,0,none⟩) a.store.cells.length a.store.cells.length],.int .i64 fn])) _):=hid ⟨_,rvs',_,_,_,_,rfl,by rw[<-HCe.out.2.1];exact HZ.order [3,4,1,0] (by decide) rfl⟩
  clear HZ HW HX x0 x1 y0 y1 y2 y3 y4 y5 y6 y7
  go_wp2
  exact bodyPost_ret (by simp[results,Tryz.results183,go_sem,z0,z1,z2,z3]) rfl HQ.out
 with_reducible refine po_last ?_ (fun K hK=>?_)
 ·(go_simp;done)
 go_simp
 refine upon_makeB HX _ _ _ _ a.store.cells.length rfl rfl (by omega) ?_
 intro gN w5 HY hb
 rw[HCe.out.2.2.2]at HY
 replace x0:=keept x0 hb
 replace x1:=keept x1 hb
 clear HX
 have HX:=HY
 clear HY hb
 refine hK.out _ _ (.inr (⟨x0,x1⟩)) ?_
 clear hK K
 with_reducible refine po_last ?_ (fun K hK=>?_)
 ·(go_simp;done)
 go_simp
 refine (list_any M a.store.cells.length _ HM.out (by omega)).mono ?_
 rintro e w4 ⟨v4,rfl,ho,hb⟩
 rw[HCe.out.2.2.1]at ho
 have HY:=HX.madeB ho hb
 obtain⟨V,kV,rfl,-⟩:=HY.formB 0 rfl
 clear HX
 have HX:=HY
 clear HY
 replace x0:=keept x0 hb
 replace x1:=keept x1 hb
 clear ho hb
 refine hK.out _ _ (.inr (⟨x0,x1⟩)) ?_
 clear hK K
 repeat first|(with_reducible apply po_take;(·(go_simp;done));(·(intro w' hS';(try dsimp only at hS');go_simp;try with_reducible rfl));simp only[lpa])|(with_reducible apply po_skip;(·(go_simp;done));simp only[lpa])
 with_reducible refine po_last ?_ (fun K hK=>?_)
 ·(go_simp;done)
 have HW:=HX.places [1,0,2,3,4,5] (by decide) (by simp);simp only[lfm]at HW
 obtain⟨y0,y1,y2,y3,y4,y5,y6,y7⟩:=box4 HW 5 rfl
 go_simp
 have HZ:=(((HW.putBox 5 rfl 0 (.slice C a.store.cells.length kC)).putBox 5 rfl 1 (.slice R a.store.roots.length kR)).putBox 5 rfl 2 (.slice V Y.old.length kV)).putBox 5 rfl 3 (.slice (some ⟨gN,0,none⟩) a.store.cells.length a.store.cells.length)
 simp only[lsz]at HZ
 clear x0 x1
 obtain⟨x0,x1,-,-⟩:=HZ.box2 2 rfl
 refine hK.out _ _ (.inr (⟨x0,x1⟩)) ?_
 clear hK K
 repeat first|(with_reducible apply po_take;(·(go_simp;done));(·(intro w' hS';(try dsimp only at hS');go_simp;try with_reducible rfl));simp only[lpa])|(with_reducible apply po_skip;(·(go_simp;done));simp only[lpa])
 refine po_done ?_
 obtain⟨z0,z1,z2,z3,-,-,-,-⟩:=box4 HZ 5 rfl
 have HQ:Hid (MadeAgN w Y (.returned (.tuple #[.agg #[.slice C a.store.cells.length kC,.slice R a.store.roots.length kR,.slice V Y.old.length kV,.slice (some ⟨gN,0,none⟩) a.store.cells.length a.store.cells.length],.int .i64 fn])) _):=hid ⟨_,rvs',_,_,_,_,rfl,by rw[<-HCe.out.2.1];exact HZ.order [3,4,1,0] (by decide) rfl⟩
 clear HZ HW HX x0 x1 y0 y1 y2 y3 y4 y5 y6 y7
 go_wp2
 exact bodyPost_ret (by simp[results,Tryz.results183,go_sem,z0,z1,z2,z3]) rfl HQ.out
set_option maxHeartbeats 6400000 in
set_option maxRecDepth 20000 in
theorem implCollectYoung_any (w:World) (B:Nat) (v:Value) (a:Ag) (hh:RdAg w B v a) (A:AgOk a):
  Calls Tryz.prog 179 #[v] w (MadeAgN w (agYoung a)):=by
 have hh':=hh.top
 obtain⟨D,m,d,D',m',d',E,q,f,F,r,x,rfl,hC,hR,hE,hF⟩:=hh.top
 obtain⟨t1,t2,t3,t4,HN3⟩:=ag_small A
 have hst:RdH w w.heap.size (.agg #[.slice D m d,.slice D' m' d']) a.store:=⟨_,_,_,_,_,_,rfl,hC,hR⟩
 have h64:a.store.cells.length<=64:=by omega
 have l1:=RdB.le1 hE;have l2:=RdB.le2 hE
 have l3:=RdB.le1 hF;have l4:=RdB.le2 hF
 have l5:=hC.le1;have l6:=hC.le2
 have l7:=RdI.le1 hR
 have hq:q<=64:=by omega
 have hrn:r<=a.store.cells.length:=by have:=A.len2;omega
 have hrm:a.store.cells.length<=r:=by have:=A.len2;omega
 have HA:=hid A
 have HFl:=hid (frTo_len A)
 have HR3:Hid (∀ (c:Nat) (l:Cel),a.store.cells[c]?=some l->l.refs.length<=3):=hid fun c l hl=>(refs3 (good_iff.2 A.good) hl).1
 have H:=((Owns.nil w).box [.slice D m d,.slice D' m' d',.slice E q f,.slice F r x] 64).box [.slice none 0 0,.slice none 0 0,.slice none 0 0,.slice none 0 0] 64
 simp only[lnm]at H
 obtain⟨a0,a1,a2,a3,-,-,-,-⟩:=box4 H 1 rfl
 clear A
 go_enter Tryz.func179,Tryz.ntmps179
 go_wp2_with fail
 refine (implAgedValid_yes _ _ _ a (hh'.below H.below) HA.out).mono ?_
 rintro e w1 ⟨rfl,hb⟩
 replace H:=H.call hb
 clear hb a0 a1 a2 a3
 obtain⟨a0,a1,a2,a3,-,-,-,-⟩:=box4 H 1 rfl
 go_wp2_with fail
 refine (clone_any _ _ _ _ _ a.store.roots (hR.below H.below) (by omega)).mono ?_
 rintro e w2 ⟨v2,rfl,ho,hb⟩
 have H2:=H.madeI ho hb
 rw[<-frTo_zero]at H2
 clear H ho hb a0 a1 a2 a3
 obtain⟨a0,a1,a2,a3,-,-,-,-⟩:=box4 H2 2 rfl
 go_wp2_with fail
 clear a0 a1 a2 a3
 go_loopw [4,18] (fun v4 i wr=>∃ k:Nat,i=.int .i64 k/\k<=r/\Owns w.heap.size w wr [.ints v4 (frTo a k),.box (w.heap.size+1) [.slice none 0 0,.slice none 0 0,.slice none 0 0,.slice none 0 0] 64,.box w.heap.size [.slice D m d,.slice D' m' d',.slice E q f,.slice F r x] 64]) (fun _ i _=>r - (intOf i).toNat)
 case atStart=>exact⟨0,rfl,Nat.zero_le _,H2⟩
 case round =>
  clear H2
  obtain⟨k,rfl,hk,H⟩:=hrel
  have hfl:=HFl.out k
  by_cases hlt:k<r
  ·obtain⟨bF,oF,z,rfl,hbF,hz,p1⟩:=RdB.at_ hF hlt
   obtain⟨b,o,l,A2,n2,c2,rfl,hbb,hx,q1,q2,q3,hrf⟩:=hC.at_ (show k<m by omega)
   have hf3:=HR3.out k l hx.out
   have r1:=RdI.le1 hrf;have r2:=RdI.le2 hrf
   have hat:=atB_at hz.out
   have g0:=H.ro p1 hbF
   have g3:=H.ro q3 hbb
   obtain⟨a0,a1,a2,a3,-,-,-,-⟩:=box4 H 2 rfl
   cases z
   ·have HT:Hid (frTo a (k+1)=frTo a k):=hid (frTo_no hat)
    clear hat p1 q1 q2 q3 hz hx
    go_wp2
    go_roundw
    case rel=>exact⟨k+1,by go_num,by omega,by rw[HT.out];exact H⟩
    case measure=>simp[intOf];omega
   ·have HT:Hid (frTo a (k+1)=frTo a k++l.refs):=hid (frTo_yes hat hx)
    obtain⟨Q,hQ⟩:∃ Q,Q=frTo a k:=⟨_,rfl⟩
    rw[<-hQ]at H HT hfl
    obtain⟨A4,c4,rfl,-⟩:=H.formI 0 rfl
    clear hat p1 q1 q2 q3 hz hx hQ
    go_wp2_with (at_builtin;go_loud (refine wpList_pushO rfl (.tmp 24) (.tmp 31) rfl H 0 rfl rfl rfl (hrf.below H.below) (by omega) ?_;intro A3 k3 w5 H3;simp only[lsz]at H3;generalize hM:Q++l.refs=M at *))
    clear H
    go_roundw
    case rel=>exact⟨k+1,by go_num,by omega,by rw[HT.out];exact H3⟩
    case measure=>simp[intOf];omega
  ·rw[show k=a.store.cells.length by omega,frTo_end]at H
   rw[show k=a.store.cells.length by omega,frTo_end]at hfl
   have HKe:Hid ((setM a.old ||| closM a.store.cells (ygM a) (agFrom a))=setM (agKeep a)):=hid (ag_keepM HA.out h64)
   have tO0:=bits_or (setM a.old) (closM a.store.cells (ygM a) (agFrom a)) (setM_lt64 (by omega)) (closM_lt _ _ _)
   rw[HKe.out]at tO0
   have HYl:=hid (ygM_lt a)
   have HYi:=hid (fun c h=>ygM_in (a:=a) h64 c h)
   obtain⟨fr,hfr⟩:∃ fr,fr=agFrom a:=⟨_,rfl⟩
   rw[<-hfr]at H hfl tO0
   obtain⟨A4,c4,rfl,-⟩:=H.formI 0 rfl
   obtain⟨KM,hKM⟩:∃ KM,KM=setM (agKeep a):=⟨_,rfl⟩
   obtain⟨S,hS⟩:∃ S,S=setM a.old:=⟨_,rfl⟩
   obtain⟨YM,hYM⟩:∃ YM,YM=ygM a:=⟨_,rfl⟩
   rw[<-hKM,<-hS,<-hYM]at tO0
   rw[<-hYM]at HYl HYi
   obtain⟨CM,hCM⟩:∃ CM,CM=closM a.store.cells YM fr:=⟨_,rfl⟩
   rw[<-hCM]at tO0
   have HS:=hid hS
   have HYM:=hid hYM
   have HCM:=hid hCM
   have HKM:=hid hKM
   obtain⟨Y,hY⟩:∃ Y,Y=agYoung a:=⟨_,rfl⟩
   have HY:=hid hY
   clear hfr hKM hS hYM hCM HKe hY
   go_wp2_with fail
   have HX:=H.drew
   clear H
   obtain⟨a0,a1,a2,a3,-,-,-,-⟩:=box4 HX 2 rfl
   refine wp_region_tree (fun w'=>(w'.cell? ⟨w.heap.size,0,none⟩=some (.slice D m d)/\w'.cell? ⟨w.heap.size,1,none⟩=some (.slice D' m' d'))/\w'.cell? ⟨w.heap.size,2,none⟩=some (.slice E q f)/\w'.cell? ⟨w.heap.size,3,none⟩=some (.slice F r x)) 16 [] (.take 0 (.take 1 (.take 2 (.take 4 (.take 5 (.take 6 (.take 7 (.alt 3 (.alt 8 (.alt 9 (.take 10 (.alt 11 (.take 12 (.take 13 (.alt 14 (.take 15 (.done)) (.stop)))) (.stop))) (.stop)) (.stop)) (.stop))))))))) (by kernel_rfl) (by kernel_rfl) (by kernel_rfl) (⟨⟨a0,a1⟩,a2,a3⟩) ?_
   simp only[fillT,lgz,Nat.reduceBEq]
   repeat first|(with_reducible apply po_take;(·(go_simp;done));(·(intro w' hS';(try dsimp only at hS');go_simp;try with_reducible rfl));simp only[lpa])|(with_reducible apply po_skip;(·(go_simp;done));simp only[lpa])
   with_reducible refine po_last ?_ (fun K hK=>?_)
   ·(go_simp;done)
   go_simp
   refine (setOf_any _ _ _ _ _ a.old (hE.below HX.below) hq).mono ?_
   rintro e w4 ⟨he,hb⟩
   rw[<-HS.out]at he
   subst he
   replace HX:=HX.call hb
   clear hb a0 a1 a2 a3
   obtain⟨a0,a1,a2,a3,-,-,-,-⟩:=box4 HX 2 rfl
   refine hK.out _ _ (.inr (⟨⟨a0,a1⟩,a2,a3⟩)) ?_
   clear hK K
   with_reducible refine po_last ?_ (fun K hK=>?_)
   ·(go_simp;done)
   go_simp
   refine (young_any _ _ _ a (hh'.below HX.below) HA.out).mono ?_
   rintro e w5 ⟨he,hb⟩
   rw[<-HYM.out]at he
   subst he
   replace HX:=HX.call hb
   clear hb a0 a1 a2 a3
   obtain⟨a0,a1,a2,a3,-,-,-,-⟩:=box4 HX 2 rfl
   refine hK.out _ _ (.inr (⟨⟨a0,a1⟩,a2,a3⟩)) ?_
   clear hK K
   with_reducible refine po_last ?_ (fun K hK=>?_)
   ·(go_simp;done)
   go_simp
   refine (closure_any _ _ _ _ a.store _ _ _ fr YM (hst.below HX.below) (HX.owI 0 rfl).rdI HYl.out HYi.out).mono ?_
   rintro e w6 ⟨he,hb⟩
   rw[<-HCM.out]at he
   subst he
   replace HX:=HX.call hb
   clear hb a0 a1 a2 a3
   obtain⟨a0,a1,a2,a3,-,-,-,-⟩:=box4 HX 2 rfl
   refine hK.out _ _ (.inr (⟨⟨a0,a1⟩,a2,a3⟩)) ?_
   clear hK K
   repeat first|(with_reducible apply po_take;(·(go_simp;done));(·(intro w' hS';(try dsimp only at hS');go_simp;try with_reducible rfl));simp only[lpa])|(with_reducible apply po_skip;(·(go_simp;done));simp only[lpa])
   with_reducible refine po_last ?_ (fun K hK=>?_)
   ·(go_simp;done)
   go_simp
   refine (keep_any _ _ _ a (hh'.below HX.below) HA.out KM HKM.out).mono ?_
   rintro e w7 ⟨cv,rvs,rv,ov,nv,fn,rfl,HW⟩
   rw[<-HY.out]at HW
   replace HW:=HX.merge HW
   simp only[lca]at HW
   obtain⟨C,kC,rfl,-⟩:=HW.formC 0 rfl
   obtain⟨R,kR,rfl,-⟩:=HW.formI 1 rfl
   obtain⟨V,kV,rfl,-⟩:=HW.formB 2 rfl
   obtain⟨W,kW,rfl,-⟩:=HW.formB 3 rfl
   clear HX a0 a1 a2 a3
   obtain⟨a0,a1,a2,a3,-,-,-,-⟩:=box4 HW 6 rfl
   refine hK.out _ _ (.inr (⟨⟨a0,a1⟩,a2,a3⟩)) ?_
   clear hK K
   repeat first|(with_reducible apply po_take;(·(go_simp;done));(·(intro w' hS';(try dsimp only at hS');go_simp;try with_reducible rfl));simp only[lpa])|(with_reducible apply po_skip;(·(go_simp;done));simp only[lpa])
   with_reducible refine po_last ?_ (fun K hK=>?_)
   ·(go_simp;done)
   obtain⟨y0,y1,y2,y3,y4,y5,y6,y7⟩:=box4 HW 5 rfl
   go_simp
   have HZ:=(((HW.putBox 5 rfl 0 (.slice C Y.store.cells.length kC)).putBox 5 rfl 1 (.slice R Y.store.roots.length kR)).putBox 5 rfl 2 (.slice V Y.old.length kV)).putBox 5 rfl 3 (.slice W Y.noted.length kW)
   simp only[lsz]at HZ
   clear a0 a1 a2 a3
   obtain⟨a0,a1,a2,a3,-,-,-,-⟩:=box4 HZ 6 rfl
   refine hK.out _ _ (.inr (⟨⟨a0,a1⟩,a2,a3⟩)) ?_
   clear hK K
   repeat first|(with_reducible apply po_take;(·(go_simp;done));(·(intro w' hS';(try dsimp only at hS');go_simp;try with_reducible rfl));simp only[lpa])|(with_reducible apply po_skip;(·(go_simp;done));simp only[lpa])
   refine po_done ?_
   obtain⟨z0,z1,z2,z3,-,-,-,-⟩:=box4 HZ 5 rfl
   have HQ:Hid (MadeAgN w (agYoung a) (.returned (.tuple #[.agg #[.slice C Y.store.cells.length kC,.slice R Y.store.roots.length kR,.slice V Y.old.length kV,.slice W Y.noted.length kW],.int .i64 fn])) _):=hid (by rw[<-HY.out];exact⟨_,rvs,_,_,_,_,rfl,HZ.take 4⟩)
   clear HZ HW a0 a1 a2 a3 y0 y1 y2 y3 y4 y5 y6 y7
   go_wp2
   exact bodyPost_ret (by simp[results,Tryz.results179,go_sem,z0,z1,z2,z3]) rfl HQ.out
noncomputable def agNext (E k:Nat) (a:Ag) (p:Cmd):Ag:=if (k+1) % E=0 then agYoung (agStep a p) else agStep a p
noncomputable def mAg (E:Nat) (cs:List Cmd):Ag:=(aged E).run 0 ⟨emptyH,[],[]⟩ cs
theorem ag_next {E k:Nat}{a:Ag}{cs:List Cmd}{p:Cmd}(hx:Hid (cs[k]?=some p)):(aged E).run k a (cs.drop k)=(aged E).run (k+1) (agNext E k a p) (cs.drop (k+1)):=Manager.run_next hx
theorem agStep_len (a:Ag) (o:Cmd):(agStep a o).store.cells.length<=a.store.cells.length+1:=by
 rw[agStep_can]
 split
 ·exact (mDo_len1 (mFree_le a.store)).2
 ·omega
theorem agNext_len (E k:Nat) (a:Ag) (p:Cmd):(agNext E k a p).store.cells.length<=a.store.cells.length+1:=by
 unfold agNext
 split
 ·rw[young_len];exact agStep_len a p
 ·exact agStep_len a p
theorem agNext_ok {E k:Nat}{a:Ag}{p:Cmd}(A:AgOk a) (hc:cmdOk p=true) (hl:a.store.cells.length<40):AgOk (agNext E k a p):=by
 unfold agNext
 split
 ·exact young_ok (agStep_ok A hc hl)
 ·exact agStep_ok A hc hl
theorem agEmpty_ok:AgOk ⟨emptyH,[],[]⟩:=(aged_fine 1).ok
theorem rem_nat (k E:Nat):Int.tmod ((k:Int)+1) (E:Int)=(((k+1) % E:Nat):Int):=by
 have:(k:Int)+1=((k+1:Nat):Int):=by omega
 rw[this,Int.ofNat_tmod]
set_option maxHeartbeats 6400000 in
set_option maxRecDepth 20000 in
theorem implRunAged_any (w:World) (B:Nat) (A:Option Addr) (n c:Nat) (cs:List Cmd) (hr:RdQ w B A n c cs) (hok:cmdsOk cs=true) (E:Nat) (hE1:1<=E) (hE2:E<=40):
  Calls Tryz.prog 177 #[.slice A n c,.int .i64 (E:Int)] w (MadeAg w (mAg E cs)):=by
 have hr:=hr.top
 obtain rfl:=hr.len
 have hm:=Nat.le_trans hr.cap hr.mx
 unfold maxLen at hm
 have H:=(Owns.nil w).box [.slice none 0 0,.slice none 0 0,.slice none 0 0,.slice none 0 0] 64
 have HC:=hid hok
 have HA:=hid (cmdsOk_all hok)
 have h40:cs.length<=40:=(cmdsOk_iff.1 hok).2
 obtain⟨RR,hRR⟩:∃ r,r=(aged E).run 0 ⟨emptyH,[],[]⟩ cs:=⟨_,rfl⟩
 have HF:Hid (mAg E cs=RR):=hid (by unfold mAg;rw[hRR])
 have HR0:Hid ((aged E).run 0 ⟨emptyH,[],[]⟩ (cs.drop 0)=RR):=hid (by rw[hRR,List.drop_zero])
 clear hok hRR
 go_enter Tryz.func177,Tryz.ntmps177
 go_wp2_with fail
 refine (implCommandsValid_any _ _ _ _ _ cs (hr.below H.below)).mono ?_
 rintro e w1 ⟨rfl,hb⟩
 rw[HC.out]
 replace H:=H.call hb
 clear hb
 go_wp2_with fail
 refine (implEmptyHeap_any _).mono ?_
 rintro e w3 ⟨cv,rvs,rv,rfl,K⟩
 replace K:=H.merge K
 simp only[lca]at K
 obtain⟨C,kC,rfl,-⟩:=K.formC 0 rfl
 obtain⟨R,kR,rfl,-⟩:=K.formI 1 rfl
 clear H
 have K2:=((K.noBools).noBools).box [.slice C emptyH.cells.length kC,.slice R emptyH.roots.length kR,.slice none 0 0,.slice none 0 0] 64
 have H3:=K2.order [0,3,4,2,1,5] (L':=[.box w3.heap.size [.slice C emptyH.cells.length kC,.slice R emptyH.roots.length kR,.slice none 0 0,.slice none 0 0] 64,.cells (.slice C emptyH.cells.length kC) rvs emptyH.cells,.ints (.slice R emptyH.roots.length kR) emptyH.roots,.bools (.slice none 0 0) [],.bools (.slice none 0 0) [],.box w.heap.size [.slice none 0 0,.slice none 0 0,.slice none 0 0,.slice none 0 0] 64]) (by decide) rfl
 clear K K2
 go_wp2_with fail
 go_loopw [24] (fun i wr=>∃ (k:Nat) (C R V W:Option Addr) (kC kR kV kW:Nat) (rvs:List Value) (a:Ag),i=.int .i64 k/\k<=cs.length/\Hid ((aged E).run k a (cs.drop k)=RR)/\Hid (AgOk a)/\a.store.cells.length<=k/\Owns w.heap.size w wr [.box w3.heap.size [.slice C a.store.cells.length kC,.slice R a.store.roots.length kR,.slice V a.old.length kV,.slice W a.noted.length kW] 64,.cells (.slice C a.store.cells.length kC) rvs a.store.cells,.ints (.slice R a.store.roots.length kR) a.store.roots,.bools (.slice V a.old.length kV) a.old,.bools (.slice W a.noted.length kW) a.noted,.box w.heap.size [.slice none 0 0,.slice none 0 0,.slice none 0 0,.slice none 0 0] 64]) (fun i _=>cs.length - (intOf i).toNat)
 case atStart=>exact⟨0,C,R,none,none,kC,kR,0,0,rvs,⟨emptyH,[],[]⟩,rfl,Nat.zero_le _,HR0,hid agEmpty_ok,Nat.le_refl _,H3⟩
 case round =>
  clear H3 HR0
  obtain⟨k,C,R,V,W,kC,kR,kV,kW,rvs,a,rfl,hk,HR,GG,hal,H⟩:=hrel
  by_cases hlt:k<cs.length
  ·obtain⟨b,o,p,rfl,hbb,hx,q1,q2,q3,q4⟩:=hr.at_ hlt
   have HP:Hid (cmdOk p=true):=hid (HA.out p (List.mem_of_getElem? hx.out))
   have HE:Hid ((aged E).run (k+1) (agNext E k a p) (cs.drop (k+1))=RR):=hid (by rw[<-HR.out,ag_next hx])
   have HTG:Hid (AgOk (agNext E k a p)):=hid (agNext_ok GG.out HP.out (by omega))
   have HSt:Hid (AgOk (agStep a p)):=hid (agStep_ok GG.out HP.out (by omega))
   have hnl:=agNext_len E k a p
   have g1:=H.ro q1 hbb
   have g2:=H.ro q2 hbb
   have g3:=H.ro q3 hbb
   have g4:=H.ro q4 hbb
   have H0:=H.box [.int .i64 p.op,.int .i64 p.a,.int .i64 p.b,.int .i64 p.c] 79
   obtain⟨x0,x1,x2,x3,-,-,-,-⟩:=box4 H0 1 rfl
   clear H q1 q2 q3 q4 HR
   go_wp2_with fail
   refine (implStepAged_any _ _ _ a (H0.rdAg 2 3 4 5 rfl rfl rfl rfl) p GG.out HP.out).mono ?_
   rintro e w5 ⟨cv,rvs',rv,ov,nv,tb,rfl,K⟩
   replace K:=H0.merge K
   simp only[lca]at K
   obtain⟨S,hS⟩:∃ S,S=agStep a p:=⟨_,rfl⟩
   rw[<-hS]at K HSt
   have HNx:Hid (agNext E k a p=if (k+1) % E=0 then agYoung S else S):=hid (by rw[hS];rfl)
   obtain⟨T,hT⟩:∃ T,T=agNext E k a p:=⟨_,rfl⟩
   rw[<-hT]at HE HTG hnl HNx
   clear hS hT H0 x0 x1 x2 x3 g1 g2 g3 g4
   obtain⟨C',kC',rfl,-⟩:=K.formC 0 rfl
   obtain⟨R',kR',rfl,-⟩:=K.formI 1 rfl
   obtain⟨V',kV',rfl,-⟩:=K.formB 2 rfl
   obtain⟨W',kW',rfl,-⟩:=K.formB 3 rfl
   obtain⟨x0,x1,x2,x3,x4,x5,x6,x7⟩:=box4 K 5 rfl
   have H7:=((((K.putBox 5 rfl 0 (.slice C' S.store.cells.length kC')).putBox 5 rfl 1 (.slice R' S.store.roots.length kR')).putBox 5 rfl 2 (.slice V' S.old.length kV')).putBox 5 rfl 3 (.slice W' S.noted.length kW')).places [5,0,1,2,3,10] (by decide) (by simp)
   simp only[lfm,lsz]at H7
   clear K
   have e1:(E:Int)≠0:=by omega
   have e2:(0:Int)<(E:Int):=by omega
   have e3:=rem_nat k E
   by_cases hmod:(k+1) % E=0
   ·have HNy:Hid (T=agYoung S):=hid (by rw[HNx.out,if_pos hmod])
    have e4:Int.tmod ((k:Int)+1) (E:Int)=0:=by rw[e3,hmod];rfl
    clear HNx hmod e3
    obtain⟨y0,y1,y2,y3,-,-,-,-⟩:=box4 H7 0 rfl
    go_wp2_with fail
    refine (implCollectYoung_any _ _ _ S (H7.rdAg 1 2 3 4 rfl rfl rfl rfl) HSt.out).mono ?_
    rintro e w6 ⟨cv,rvs2,rv,ov,nv,fn,rfl,K⟩
    rw[<-HNy.out]at K
    replace K:=H7.merge K
    simp only[lca]at K
    obtain⟨C2,kC2,rfl,-⟩:=K.formC 0 rfl
    obtain⟨R2,kR2,rfl,-⟩:=K.formI 1 rfl
    obtain⟨V2,kV2,rfl,-⟩:=K.formB 2 rfl
    obtain⟨W2,kW2,rfl,-⟩:=K.formB 3 rfl
    clear H7 y0 y1 y2 y3 x0 x1 x2 x3 x4 x5 x6 x7
    obtain⟨x0,x1,x2,x3,x4,x5,x6,x7⟩:=box4 K 4 rfl
    have H8:=((((K.putBox 4 rfl 0 (.slice C2 T.store.cells.length kC2)).putBox 4 rfl 1 (.slice R2 T.store.roots.length kR2)).putBox 4 rfl 2 (.slice V2 T.old.length kV2)).putBox 4 rfl 3 (.slice W2 T.noted.length kW2)).places [4,0,1,2,3,9] (by decide) (by simp)
    simp only[lfm,lsz]at H8
    clear K
    go_wp2_with fail
    go_roundw
    case rel=>exact⟨k+1,C2,R2,V2,W2,kC2,kR2,kV2,kW2,rvs2,T,by go_num,by omega,HE,HTG,by omega,H8⟩
    case measure=>simp[intOf];omega
   ·obtain rfl:T=S:=by rw[HNx.out,if_neg hmod]
    have e5:(((k:Int)+1) % (E:Int) == 0)=false:=by
     have h9:((k:Int)+1) % (E:Int)=(((k+1) % E:Nat):Int):=by rw[Int.natCast_emod];rfl
     rw[h9]
     simp only[beq_eq_false_iff_ne,ne_eq]
     omega
    clear HNx hmod
    go_wp2_with fail
    go_roundw
    case rel=>exact⟨k+1,C',R',V',W',kC',kR',kV',kW',rvs',T,by go_num,by omega,HE,HTG,by omega,H7⟩
    case measure=>simp[intOf];omega
  ·have HE:Hid (RR=a):=hid (by rw[<-HR.out,Manager.run_out (by omega)])
   obtain⟨x0,x1,x2,x3,-,-,-,-⟩:=box4 H 0 rfl
   obtain⟨y0,y1,y2,y3,y4,y5,y6,y7⟩:=box4 H 5 rfl
   have HZ:=(((H.putBox 5 rfl 0 (.slice C a.store.cells.length kC)).putBox 5 rfl 1 (.slice R a.store.roots.length kR)).putBox 5 rfl 2 (.slice V a.old.length kV)).putBox 5 rfl 3 (.slice W a.noted.length kW)
   simp only[lsz]at HZ
   obtain⟨z0,z1,z2,z3,-,-,-,-⟩:=box4 HZ 5 rfl
   have HS:Hid (MadeAg w (mAg E cs) (.returned (.agg #[.slice C a.store.cells.length kC,.slice R a.store.roots.length kR,.slice V a.old.length kV,.slice W a.noted.length kW])) _):=hid (by rw[HF.out,HE.out];exact⟨_,rvs,_,_,_,rfl,HZ.order [1,2,3,4] (by decide) rfl⟩)
   clear H HZ
   go_wp2
   exact bodyPost_ret (by simp[results,Tryz.results177,go_sem,z0,z1,z2,z3]) rfl HS.out
theorem four_keep {w w':World}{g:Nat}{a b c d:Value}(h:(w.cell? ⟨g,0,none⟩=some a/\w.cell? ⟨g,1,none⟩=some b)/\w.cell? ⟨g,2,none⟩=some c/\w.cell? ⟨g,3,none⟩=some d) (hb:Below w.heap.size w w'):(w'.cell? ⟨g,0,none⟩=some a/\w'.cell? ⟨g,1,none⟩=some b)/\w'.cell? ⟨g,2,none⟩=some c/\w'.cell? ⟨g,3,none⟩=some d:=
 ⟨⟨keept h.1.1 hb,keept h.1.2 hb⟩,keept h.2.1 hb,keept h.2.2 hb⟩
theorem box4s {lo:Nat}{w0 w:World}{L:List OB}{g:Nat}{a b c d:Value}{t:TypeId}(h:Owns lo w0 w L) (i:Nat) (hX:L[i]?=some (.box g [a,b,c,d] t)):(w.cell? ⟨g,0,none⟩=some a/\w.cell? ⟨g,1,none⟩=some b)/\w.cell? ⟨g,2,none⟩=some c/\w.cell? ⟨g,3,none⟩=some d:=by
 obtain⟨q0,q1,q2,q3,-⟩:=box4 h i hX
 exact⟨⟨q0,q1⟩,q2,q3⟩
set_option maxHeartbeats 6400000 in
set_option maxRecDepth 20000 in
theorem l17Copy_any (w:World) (B:Nat) (v:Value) (a:Ag) (hh:RdAg w B v a) (A:AgOk a):
  Calls Tryz.prog 97 #[v] w (MadeAg w a):=by
 obtain⟨D,m,d,D',m',d',E,q,f,F,r,x,rfl,hC,hR,hE,hF⟩:=hh.top
 obtain⟨t1,t2,t3,t4,HN3⟩:=ag_small A
 replace t1:a.store.cells.length<=1048576:=by omega
 replace t2:a.store.roots.length<=1048576:=by omega
 have hst:RdH w w.heap.size (.agg #[.slice D m d,.slice D' m' d']) a.store:=⟨_,_,_,_,_,_,rfl,hC,hR⟩
 have l1:=RdB.le1 hE
 have l2:=RdB.le1 hF
 have e1:([]:List Bool).length+q<=1099511627776:=by simp;omega
 have e2:([]:List Bool).length+r<=1099511627776:=by simp;omega
 have H:=((Owns.nil w).box [.slice D m d,.slice D' m' d',.slice E q f,.slice F r x] 64).box [.slice none 0 0,.slice none 0 0,.slice none 0 0,.slice none 0 0] 64
 simp only[lnm]at H
 clear A
 go_enter Tryz.func97,Tryz.ntmps97
 go_wp2_with fail
 have HX:=H.drew
 clear H
 have hs:=box4s HX 1 rfl
 refine wp_region_tree (fun w'=>(w'.cell? ⟨w.heap.size,0,none⟩=some (.slice D m d)/\w'.cell? ⟨w.heap.size,1,none⟩=some (.slice D' m' d'))/\w'.cell? ⟨w.heap.size,2,none⟩=some (.slice E q f)/\w'.cell? ⟨w.heap.size,3,none⟩=some (.slice F r x)) 12 [] (.take 0 (.take 1 (.take 4 (.take 5 (.take 8 (.take 9 (.alt 2 (.alt 3 (.alt 6 (.alt 7 (.alt 10 (.take 11 (.alt 12 (.done) (.stop))) (.stop)) (.stop)) (.alt 7 (.alt 6 (.alt 10 (.take 11 (.alt 12 (.done) (.stop))) (.stop)) (.stop)) (.stop))) (.alt 7 (.alt 3 (.alt 6 (.alt 10 (.take 11 (.alt 12 (.done) (.stop))) (.stop)) (.stop)) (.stop)) (.stop))) (.alt 3 (.alt 2 (.alt 6 (.alt 7 (.alt 10 (.take 11 (.alt 12 (.done) (.stop))) (.stop)) (.stop)) (.alt 7 (.alt 6 (.alt 10 (.take 11 (.alt 12 (.done) (.stop))) (.stop)) (.stop)) (.stop))) (.alt 7 (.alt 2 (.alt 6 (.alt 10 (.take 11 (.alt 12 (.done) (.stop))) (.stop)) (.stop)) (.stop)) (.stop))) (.alt 7 (.alt 2 (.alt 3 (.alt 6 (.alt 10 (.take 11 (.alt 12 (.done) (.stop))) (.stop)) (.stop)) (.stop)) (.alt 3 (.alt 2 (.alt 6 (.alt 10 (.take 11 (.alt 12 (.done) (.stop))) (.stop)) (.stop)) (.stop)) (.stop))) (.stop)))))))))) (by kernel_rfl) (by kernel_rfl) (by kernel_rfl) (hs) ?_
 simp only[fillT,lgz,Nat.reduceBEq]
 repeat first|(with_reducible apply po_take;(·(go_simp;done));(·(intro w' hS';(try dsimp only at hS');go_simp;try with_reducible rfl));simp only[lpa])|(with_reducible apply po_skip;(·(go_simp;done));simp only[lpa])
 with_reducible refine po_run ?_ (fun K hK=>?_) ?_
 ·(go_simp;done)
 ·
  revert HX hs;generalize World.drew _=wd;intro HX hs
  go_simp
  refine (l7Copy_any _ _ _ a.store (hst.below HX.below) t1 t2 HN3.out).mono ?_
  rintro e w1 ⟨v1,rfl,ho,hb⟩
  obtain⟨cv,rvs,rv,rfl,HY⟩:=HX.madeH ho hb
  obtain⟨C,kC,rfl,-⟩:=HY.formC 0 rfl
  obtain⟨R,kR,rfl,-⟩:=HY.formI 1 rfl
  replace hs:=four_keep hs hb
  replace HX:=HY
  clear HY ho hb
  refine hK.out _ _ (.inr (hs)) ?_
  clear hK K
  with_reducible refine po_run ?_ (fun K hK=>?_) ?_
  ·(go_simp;done)
  ·
   go_simp
   replace HX:=HX.litB [] zero_le_maxLen
   simp only[List.map_nil,List.length_nil]at HX
   replace hs:=four_keep hs (below_alloc _ (.cells #[] 4))
   revert HX hs
   generalize World.alloc _ _=wz
   intro HX hs
   refine hK.out _ _ (.inr (hs)) ?_
   clear hK K
   with_reducible refine po_run ?_ (fun K hK=>?_) ?_
   ·(go_simp;done)
   ·
    refine wp_pushBO (.tmp 6) (.tmp 8) rfl HX (2*0+0) rfl rfl rfl (hE.below HX.below) e1 ?_
    clear HX hs
    intro A5 k5 w5 HX
    have hs:=box4s HX (1+1+2*1+0) rfl
    refine hK.out _ _ (.inr (hs)) ?_
    clear hK K
    with_reducible refine po_last ?_ (fun K hK=>?_)
    ·(go_simp;done)
    go_simp
    replace HX:=HX.litB [] zero_le_maxLen
    simp only[List.map_nil,List.length_nil]at HX
    replace hs:=four_keep hs (below_alloc _ (.cells #[] 4))
    revert HX hs
    generalize World.alloc _ _=wz
    intro HX hs
    refine hK.out _ _ (.inr (hs)) ?_
    clear hK K
    with_reducible refine po_last ?_ (fun K hK=>?_)
    ·(go_simp;done)
    refine wp_pushBO (.tmp 10) (.tmp 12) rfl HX (2*0+0) rfl rfl rfl (hF.below HX.below) e2 ?_
    clear HX hs
    intro A6 k6 w6 HX
    have hs:=box4s HX (1+1+2*1+1) rfl
    refine hK.out _ _ (.inr (hs)) ?_
    clear hK K
    repeat first|(with_reducible apply po_take;(·(go_simp;done));(·(intro w' hS';(try dsimp only at hS');go_simp;try with_reducible rfl));simp only[lpa])|(with_reducible apply po_skip;(·(go_simp;done));simp only[lpa])
    with_reducible refine po_last ?_ (fun K hK=>?_)
    ·(go_simp;done)
    have HZ:=HX.order [2,3,1,0,4] (L':=[.cells (.slice C a.store.cells.length kC) rvs a.store.cells,.ints (.slice R a.store.roots.length kR) a.store.roots,.bools (.slice A5 a.old.length k5) a.old,.bools (.slice A6 a.noted.length k6) a.noted,.box (w.heap.size+1) [.slice none 0 0,.slice none 0 0,.slice none 0 0,.slice none 0 0] 64]) (by decide) rfl
    obtain⟨y0,y1,y2,y3,y4,y5,y6,y7⟩:=box4 HZ 4 rfl
    go_simp
    have HW:=(((HZ.putBox 4 rfl 0 (.slice C a.store.cells.length kC)).putBox 4 rfl 1 (.slice R a.store.roots.length kR)).putBox 4 rfl 2 (.slice A5 a.old.length k5)).putBox 4 rfl 3 (.slice A6 a.noted.length k6)
    simp only[lsz]at HW
    refine hK.out _ _ (.inl rfl) ?_
    clear hK K
    refine po_done ?_
    obtain⟨z0,z1,z2,z3,-,-,-,-⟩:=box4 HW 4 rfl
    have HS:Hid (MadeAg w a (.returned (.agg #[.slice C a.store.cells.length kC,.slice R a.store.roots.length kR,.slice A5 a.old.length k5,.slice A6 a.noted.length k6])) _):=hid ⟨_,rvs,_,_,_,rfl,HW.take 4⟩
    clear HZ HX HW hs
    go_wp2
    exact bodyPost_ret (by simp[results,Tryz.results97,go_sem,z0,z1,z2,z3]) rfl HS.out
   with_reducible refine po_last ?_ (fun K hK=>?_)
   ·(go_simp;done)
   go_simp
   replace HX:=HX.litB [] zero_le_maxLen
   simp only[List.map_nil,List.length_nil]at HX
   replace hs:=four_keep hs (below_alloc _ (.cells #[] 4))
   revert HX hs
   generalize World.alloc _ _=wz
   intro HX hs
   refine hK.out _ _ (.inr (hs)) ?_
   clear hK K
   with_reducible refine po_last ?_ (fun K hK=>?_)
   ·(go_simp;done)
   refine wp_pushBO (.tmp 6) (.tmp 8) rfl HX (2*0+1) rfl rfl rfl (hE.below HX.below) e1 ?_
   clear HX hs
   intro A5 k5 w5 HX
   have hs:=box4s HX (1+1+2*1+1) rfl
   refine hK.out _ _ (.inr (hs)) ?_
   clear hK K
   with_reducible refine po_last ?_ (fun K hK=>?_)
   ·(go_simp;done)
   refine wp_pushBO (.tmp 10) (.tmp 12) rfl HX (2*0+0) rfl rfl rfl (hF.below HX.below) e2 ?_
   clear HX hs
   intro A6 k6 w6 HX
   have hs:=box4s HX (1+1+2*1+1) rfl
   refine hK.out _ _ (.inr (hs)) ?_
   clear hK K
   repeat first|(with_reducible apply po_take;(·(go_simp;done));(·(intro w' hS';(try dsimp only at hS');go_simp;try with_reducible rfl));simp only[lpa])|(with_reducible apply po_skip;(·(go_simp;done));simp only[lpa])
   with_reducible refine po_last ?_ (fun K hK=>?_)
   ·(go_simp;done)
   have HZ:=HX.order [2,3,1,0,4] (L':=[.cells (.slice C a.store.cells.length kC) rvs a.store.cells,.ints (.slice R a.store.roots.length kR) a.store.roots,.bools (.slice A5 a.old.length k5) a.old,.bools (.slice A6 a.noted.length k6) a.noted,.box (w.heap.size+1) [.slice none 0 0,.slice none 0 0,.slice none 0 0,.slice none 0 0] 64]) (by decide) rfl
   obtain⟨y0,y1,y2,y3,y4,y5,y6,y7⟩:=box4 HZ 4 rfl
   go_simp
   have HW:=(((HZ.putBox 4 rfl 0 (.slice C a.store.cells.length kC)).putBox 4 rfl 1 (.slice R a.store.roots.length kR)).putBox 4 rfl 2 (.slice A5 a.old.length k5)).putBox 4 rfl 3 (.slice A6 a.noted.length k6)
   simp only[lsz]at HW
   refine hK.out _ _ (.inl rfl) ?_
   clear hK K
   refine po_done ?_
   obtain⟨z0,z1,z2,z3,-,-,-,-⟩:=box4 HW 4 rfl
   have HS:Hid (MadeAg w a (.returned (.agg #[.slice C a.store.cells.length kC,.slice R a.store.roots.length kR,.slice A5 a.old.length k5,.slice A6 a.noted.length k6])) _):=hid ⟨_,rvs,_,_,_,rfl,HW.take 4⟩
   clear HZ HX HW hs
   go_wp2
   exact bodyPost_ret (by simp[results,Tryz.results97,go_sem,z0,z1,z2,z3]) rfl HS.out
  with_reducible refine po_last ?_ (fun K hK=>?_)
  ·(go_simp;done)
  go_simp
  replace HX:=HX.litB [] zero_le_maxLen
  simp only[List.map_nil,List.length_nil]at HX
  replace hs:=four_keep hs (below_alloc _ (.cells #[] 4))
  revert HX hs
  generalize World.alloc _ _=wz
  intro HX hs
  refine hK.out _ _ (.inr (hs)) ?_
  clear hK K
  with_reducible refine po_last ?_ (fun K hK=>?_)
  ·(go_simp;done)
  go_simp
  replace HX:=HX.litB [] zero_le_maxLen
  simp only[List.map_nil,List.length_nil]at HX
  replace hs:=four_keep hs (below_alloc _ (.cells #[] 4))
  revert HX hs
  generalize World.alloc _ _=wz
  intro HX hs
  refine hK.out _ _ (.inr (hs)) ?_
  clear hK K
  with_reducible refine po_last ?_ (fun K hK=>?_)
  ·(go_simp;done)
  refine wp_pushBO (.tmp 6) (.tmp 8) rfl HX (2*0+0) rfl rfl rfl (hE.below HX.below) e1 ?_
  clear HX hs
  intro A5 k5 w5 HX
  have hs:=box4s HX (1+1+2*1+1) rfl
  refine hK.out _ _ (.inr (hs)) ?_
  clear hK K
  with_reducible refine po_last ?_ (fun K hK=>?_)
  ·(go_simp;done)
  refine wp_pushBO (.tmp 10) (.tmp 12) rfl HX (2*0+1) rfl rfl rfl (hF.below HX.below) e2 ?_
  clear HX hs
  intro A6 k6 w6 HX
  have hs:=box4s HX (1+1+2*1+1) rfl
  refine hK.out _ _ (.inr (hs)) ?_
  clear hK K
  repeat first|(with_reducible apply po_take;(·(go_simp;done));(·(intro w' hS';(try dsimp only at hS');go_simp;try with_reducible rfl));simp only[lpa])|(with_reducible apply po_skip;(·(go_simp;done));simp only[lpa])
  with_reducible refine po_last ?_ (fun K hK=>?_)
  ·(go_simp;done)
  have HZ:=HX.order [2,3,0,1,4] (L':=[.cells (.slice C a.store.cells.length kC) rvs a.store.cells,.ints (.slice R a.store.roots.length kR) a.store.roots,.bools (.slice A5 a.old.length k5) a.old,.bools (.slice A6 a.noted.length k6) a.noted,.box (w.heap.size+1) [.slice none 0 0,.slice none 0 0,.slice none 0 0,.slice none 0 0] 64]) (by decide) rfl
  obtain⟨y0,y1,y2,y3,y4,y5,y6,y7⟩:=box4 HZ 4 rfl
  go_simp
  have HW:=(((HZ.putBox 4 rfl 0 (.slice C a.store.cells.length kC)).putBox 4 rfl 1 (.slice R a.store.roots.length kR)).putBox 4 rfl 2 (.slice A5 a.old.length k5)).putBox 4 rfl 3 (.slice A6 a.noted.length k6)
  simp only[lsz]at HW
  refine hK.out _ _ (.inl rfl) ?_
  clear hK K
  refine po_done ?_
  obtain⟨z0,z1,z2,z3,-,-,-,-⟩:=box4 HW 4 rfl
  have HS:Hid (MadeAg w a (.returned (.agg #[.slice C a.store.cells.length kC,.slice R a.store.roots.length kR,.slice A5 a.old.length k5,.slice A6 a.noted.length k6])) _):=hid ⟨_,rvs,_,_,_,rfl,HW.take 4⟩
  clear HZ HX HW hs
  go_wp2
  exact bodyPost_ret (by simp[results,Tryz.results97,go_sem,z0,z1,z2,z3]) rfl HS.out
 with_reducible refine po_run ?_ (fun K hK=>?_) ?_
 ·(go_simp;done)
 ·
  revert HX hs;generalize World.drew _=wd;intro HX hs
  go_simp
  replace HX:=HX.litB [] zero_le_maxLen
  simp only[List.map_nil,List.length_nil]at HX
  replace hs:=four_keep hs (below_alloc _ (.cells #[] 4))
  revert HX hs
  generalize World.alloc _ _=wz
  intro HX hs
  refine hK.out _ _ (.inr (hs)) ?_
  clear hK K
  with_reducible refine po_run ?_ (fun K hK=>?_) ?_
  ·(go_simp;done)
  ·
   go_simp
   refine (l7Copy_any _ _ _ a.store (hst.below HX.below) t1 t2 HN3.out).mono ?_
   rintro e w1 ⟨v1,rfl,ho,hb⟩
   obtain⟨cv,rvs,rv,rfl,HY⟩:=HX.madeH ho hb
   obtain⟨C,kC,rfl,-⟩:=HY.formC 0 rfl
   obtain⟨R,kR,rfl,-⟩:=HY.formI 1 rfl
   replace hs:=four_keep hs hb
   replace HX:=HY
   clear HY ho hb
   refine hK.out _ _ (.inr (hs)) ?_
   clear hK K
   with_reducible refine po_run ?_ (fun K hK=>?_) ?_
   ·(go_simp;done)
   ·
    refine wp_pushBO (.tmp 6) (.tmp 8) rfl HX (2*1+0) rfl rfl rfl (hE.below HX.below) e1 ?_
    clear HX hs
    intro A5 k5 w5 HX
    have hs:=box4s HX (1+1+2*1+0) rfl
    refine hK.out _ _ (.inr (hs)) ?_
    clear hK K
    with_reducible refine po_last ?_ (fun K hK=>?_)
    ·(go_simp;done)
    go_simp
    replace HX:=HX.litB [] zero_le_maxLen
    simp only[List.map_nil,List.length_nil]at HX
    replace hs:=four_keep hs (below_alloc _ (.cells #[] 4))
    revert HX hs
    generalize World.alloc _ _=wz
    intro HX hs
    refine hK.out _ _ (.inr (hs)) ?_
    clear hK K
    with_reducible refine po_last ?_ (fun K hK=>?_)
    ·(go_simp;done)
    refine wp_pushBO (.tmp 10) (.tmp 12) rfl HX (2*0+0) rfl rfl rfl (hF.below HX.below) e2 ?_
    clear HX hs
    intro A6 k6 w6 HX
    have hs:=box4s HX (1+1+2*1+1) rfl
    refine hK.out _ _ (.inr (hs)) ?_
    clear hK K
    repeat first|(with_reducible apply po_take;(·(go_simp;done));(·(intro w' hS';(try dsimp only at hS');go_simp;try with_reducible rfl));simp only[lpa])|(with_reducible apply po_skip;(·(go_simp;done));simp only[lpa])
    with_reducible refine po_last ?_ (fun K hK=>?_)
    ·(go_simp;done)
    have HZ:=HX.order [1,2,3,0,4] (L':=[.cells (.slice C a.store.cells.length kC) rvs a.store.cells,.ints (.slice R a.store.roots.length kR) a.store.roots,.bools (.slice A5 a.old.length k5) a.old,.bools (.slice A6 a.noted.length k6) a.noted,.box (w.heap.size+1) [.slice none 0 0,.slice none 0 0,.slice none 0 0,.slice none 0 0] 64]) (by decide) rfl
    obtain⟨y0,y1,y2,y3,y4,y5,y6,y7⟩:=box4 HZ 4 rfl
    go_simp
    have HW:=(((HZ.putBox 4 rfl 0 (.slice C a.store.cells.length kC)).putBox 4 rfl 1 (.slice R a.store.roots.length kR)).putBox 4 rfl 2 (.slice A5 a.old.length k5)).putBox 4 rfl 3 (.slice A6 a.noted.length k6)
    simp only[lsz]at HW
    refine hK.out _ _ (.inl rfl) ?_
    clear hK K
    refine po_done ?_
    obtain⟨z0,z1,z2,z3,-,-,-,-⟩:=box4 HW 4 rfl
    have HS:Hid (MadeAg w a (.returned (.agg #[.slice C a.store.cells.length kC,.slice R a.store.roots.length kR,.slice A5 a.old.length k5,.slice A6 a.noted.length k6])) _):=hid ⟨_,rvs,_,_,_,rfl,HW.take 4⟩
    clear HZ HX HW hs
    go_wp2
    exact bodyPost_ret (by simp[results,Tryz.results97,go_sem,z0,z1,z2,z3]) rfl HS.out
   with_reducible refine po_last ?_ (fun K hK=>?_)
   ·(go_simp;done)
   go_simp
   replace HX:=HX.litB [] zero_le_maxLen
   simp only[List.map_nil,List.length_nil]at HX
   replace hs:=four_keep hs (below_alloc _ (.cells #[] 4))
   revert HX hs
   generalize World.alloc _ _=wz
   intro HX hs
   refine hK.out _ _ (.inr (hs)) ?_
   clear hK K
   with_reducible refine po_last ?_ (fun K hK=>?_)
   ·(go_simp;done)
   refine wp_pushBO (.tmp 6) (.tmp 8) rfl HX (2*1+1) rfl rfl rfl (hE.below HX.below) e1 ?_
   clear HX hs
   intro A5 k5 w5 HX
   have hs:=box4s HX (1+1+2*1+1) rfl
   refine hK.out _ _ (.inr (hs)) ?_
   clear hK K
   with_reducible refine po_last ?_ (fun K hK=>?_)
   ·(go_simp;done)
   refine wp_pushBO (.tmp 10) (.tmp 12) rfl HX (2*0+0) rfl rfl rfl (hF.below HX.below) e2 ?_
   clear HX hs
   intro A6 k6 w6 HX
   have hs:=box4s HX (1+1+2*1+1) rfl
   refine hK.out _ _ (.inr (hs)) ?_
   clear hK K
   repeat first|(with_reducible apply po_take;(·(go_simp;done));(·(intro w' hS';(try dsimp only at hS');go_simp;try with_reducible rfl));simp only[lpa])|(with_reducible apply po_skip;(·(go_simp;done));simp only[lpa])
   with_reducible refine po_last ?_ (fun K hK=>?_)
   ·(go_simp;done)
   have HZ:=HX.order [1,2,3,0,4] (L':=[.cells (.slice C a.store.cells.length kC) rvs a.store.cells,.ints (.slice R a.store.roots.length kR) a.store.roots,.bools (.slice A5 a.old.length k5) a.old,.bools (.slice A6 a.noted.length k6) a.noted,.box (w.heap.size+1) [.slice none 0 0,.slice none 0 0,.slice none 0 0,.slice none 0 0] 64]) (by decide) rfl
   obtain⟨y0,y1,y2,y3,y4,y5,y6,y7⟩:=box4 HZ 4 rfl
   go_simp
   have HW:=(((HZ.putBox 4 rfl 0 (.slice C a.store.cells.length kC)).putBox 4 rfl 1 (.slice R a.store.roots.length kR)).putBox 4 rfl 2 (.slice A5 a.old.length k5)).putBox 4 rfl 3 (.slice A6 a.noted.length k6)
   simp only[lsz]at HW
   refine hK.out _ _ (.inl rfl) ?_
   clear hK K
   refine po_done ?_
   obtain⟨z0,z1,z2,z3,-,-,-,-⟩:=box4 HW 4 rfl
   have HS:Hid (MadeAg w a (.returned (.agg #[.slice C a.store.cells.length kC,.slice R a.store.roots.length kR,.slice A5 a.old.length k5,.slice A6 a.noted.length k6])) _):=hid ⟨_,rvs,_,_,_,rfl,HW.take 4⟩
   clear HZ HX HW hs
   go_wp2
   exact bodyPost_ret (by simp[results,Tryz.results97,go_sem,z0,z1,z2,z3]) rfl HS.out
  with_reducible refine po_last ?_ (fun K hK=>?_)
  ·(go_simp;done)
  go_simp
  replace HX:=HX.litB [] zero_le_maxLen
  simp only[List.map_nil,List.length_nil]at HX
  replace hs:=four_keep hs (below_alloc _ (.cells #[] 4))
  revert HX hs
  generalize World.alloc _ _=wz
  intro HX hs
  refine hK.out _ _ (.inr (hs)) ?_
  clear hK K
  with_reducible refine po_last ?_ (fun K hK=>?_)
  ·(go_simp;done)
  go_simp
  refine (l7Copy_any _ _ _ a.store (hst.below HX.below) t1 t2 HN3.out).mono ?_
  rintro e w1 ⟨v1,rfl,ho,hb⟩
  obtain⟨cv,rvs,rv,rfl,HY⟩:=HX.madeH ho hb
  obtain⟨C,kC,rfl,-⟩:=HY.formC 0 rfl
  obtain⟨R,kR,rfl,-⟩:=HY.formI 1 rfl
  replace hs:=four_keep hs hb
  replace HX:=HY
  clear HY ho hb
  refine hK.out _ _ (.inr (hs)) ?_
  clear hK K
  with_reducible refine po_last ?_ (fun K hK=>?_)
  ·(go_simp;done)
  refine wp_pushBO (.tmp 6) (.tmp 8) rfl HX (2*1+1) rfl rfl rfl (hE.below HX.below) e1 ?_
  clear HX hs
  intro A5 k5 w5 HX
  have hs:=box4s HX (1+1+2*1+1) rfl
  refine hK.out _ _ (.inr (hs)) ?_
  clear hK K
  with_reducible refine po_last ?_ (fun K hK=>?_)
  ·(go_simp;done)
  refine wp_pushBO (.tmp 10) (.tmp 12) rfl HX (2*1+0) rfl rfl rfl (hF.below HX.below) e2 ?_
  clear HX hs
  intro A6 k6 w6 HX
  have hs:=box4s HX (1+1+2*1+1) rfl
  refine hK.out _ _ (.inr (hs)) ?_
  clear hK K
  repeat first|(with_reducible apply po_take;(·(go_simp;done));(·(intro w' hS';(try dsimp only at hS');go_simp;try with_reducible rfl));simp only[lpa])|(with_reducible apply po_skip;(·(go_simp;done));simp only[lpa])
  with_reducible refine po_last ?_ (fun K hK=>?_)
  ·(go_simp;done)
  have HZ:=HX.order [0,1,3,2,4] (L':=[.cells (.slice C a.store.cells.length kC) rvs a.store.cells,.ints (.slice R a.store.roots.length kR) a.store.roots,.bools (.slice A5 a.old.length k5) a.old,.bools (.slice A6 a.noted.length k6) a.noted,.box (w.heap.size+1) [.slice none 0 0,.slice none 0 0,.slice none 0 0,.slice none 0 0] 64]) (by decide) rfl
  obtain⟨y0,y1,y2,y3,y4,y5,y6,y7⟩:=box4 HZ 4 rfl
  go_simp
  have HW:=(((HZ.putBox 4 rfl 0 (.slice C a.store.cells.length kC)).putBox 4 rfl 1 (.slice R a.store.roots.length kR)).putBox 4 rfl 2 (.slice A5 a.old.length k5)).putBox 4 rfl 3 (.slice A6 a.noted.length k6)
  simp only[lsz]at HW
  refine hK.out _ _ (.inl rfl) ?_
  clear hK K
  refine po_done ?_
  obtain⟨z0,z1,z2,z3,-,-,-,-⟩:=box4 HW 4 rfl
  have HS:Hid (MadeAg w a (.returned (.agg #[.slice C a.store.cells.length kC,.slice R a.store.roots.length kR,.slice A5 a.old.length k5,.slice A6 a.noted.length k6])) _):=hid ⟨_,rvs,_,_,_,rfl,HW.take 4⟩
  clear HZ HX HW hs
  go_wp2
  exact bodyPost_ret (by simp[results,Tryz.results97,go_sem,z0,z1,z2,z3]) rfl HS.out
 with_reducible refine po_last ?_ (fun K hK=>?_)
 ·(go_simp;done)
 revert HX hs;generalize World.drew _=wd;intro HX hs
 go_simp
 replace HX:=HX.litB [] zero_le_maxLen
 simp only[List.map_nil,List.length_nil]at HX
 replace hs:=four_keep hs (below_alloc _ (.cells #[] 4))
 revert HX hs
 generalize World.alloc _ _=wz
 intro HX hs
 refine hK.out _ _ (.inr (hs)) ?_
 clear hK K
 with_reducible refine po_run ?_ (fun K hK=>?_) ?_
 ·(go_simp;done)
 ·
  go_simp
  refine (l7Copy_any _ _ _ a.store (hst.below HX.below) t1 t2 HN3.out).mono ?_
  rintro e w1 ⟨v1,rfl,ho,hb⟩
  obtain⟨cv,rvs,rv,rfl,HY⟩:=HX.madeH ho hb
  obtain⟨C,kC,rfl,-⟩:=HY.formC 0 rfl
  obtain⟨R,kR,rfl,-⟩:=HY.formI 1 rfl
  replace hs:=four_keep hs hb
  replace HX:=HY
  clear HY ho hb
  refine hK.out _ _ (.inr (hs)) ?_
  clear hK K
  with_reducible refine po_last ?_ (fun K hK=>?_)
  ·(go_simp;done)
  go_simp
  replace HX:=HX.litB [] zero_le_maxLen
  simp only[List.map_nil,List.length_nil]at HX
  replace hs:=four_keep hs (below_alloc _ (.cells #[] 4))
  revert HX hs
  generalize World.alloc _ _=wz
  intro HX hs
  refine hK.out _ _ (.inr (hs)) ?_
  clear hK K
  with_reducible refine po_last ?_ (fun K hK=>?_)
  ·(go_simp;done)
  refine wp_pushBO (.tmp 6) (.tmp 8) rfl HX (2*0+0) rfl rfl rfl (hE.below HX.below) e1 ?_
  clear HX hs
  intro A5 k5 w5 HX
  have hs:=box4s HX (1+1+2*1+1) rfl
  refine hK.out _ _ (.inr (hs)) ?_
  clear hK K
  with_reducible refine po_last ?_ (fun K hK=>?_)
  ·(go_simp;done)
  refine wp_pushBO (.tmp 10) (.tmp 12) rfl HX (2*1+1) rfl rfl rfl (hF.below HX.below) e2 ?_
  clear HX hs
  intro A6 k6 w6 HX
  have hs:=box4s HX (1+1+2*1+1) rfl
  refine hK.out _ _ (.inr (hs)) ?_
  clear hK K
  repeat first|(with_reducible apply po_take;(·(go_simp;done));(·(intro w' hS';(try dsimp only at hS');go_simp;try with_reducible rfl));simp only[lpa])|(with_reducible apply po_skip;(·(go_simp;done));simp only[lpa])
  with_reducible refine po_last ?_ (fun K hK=>?_)
  ·(go_simp;done)
  have HZ:=HX.order [1,2,0,3,4] (L':=[.cells (.slice C a.store.cells.length kC) rvs a.store.cells,.ints (.slice R a.store.roots.length kR) a.store.roots,.bools (.slice A5 a.old.length k5) a.old,.bools (.slice A6 a.noted.length k6) a.noted,.box (w.heap.size+1) [.slice none 0 0,.slice none 0 0,.slice none 0 0,.slice none 0 0] 64]) (by decide) rfl
  obtain⟨y0,y1,y2,y3,y4,y5,y6,y7⟩:=box4 HZ 4 rfl
  go_simp
  have HW:=(((HZ.putBox 4 rfl 0 (.slice C a.store.cells.length kC)).putBox 4 rfl 1 (.slice R a.store.roots.length kR)).putBox 4 rfl 2 (.slice A5 a.old.length k5)).putBox 4 rfl 3 (.slice A6 a.noted.length k6)
  simp only[lsz]at HW
  refine hK.out _ _ (.inl rfl) ?_
  clear hK K
  refine po_done ?_
  obtain⟨z0,z1,z2,z3,-,-,-,-⟩:=box4 HW 4 rfl
  have HS:Hid (MadeAg w a (.returned (.agg #[.slice C a.store.cells.length kC,.slice R a.store.roots.length kR,.slice A5 a.old.length k5,.slice A6 a.noted.length k6])) _):=hid ⟨_,rvs,_,_,_,rfl,HW.take 4⟩
  clear HZ HX HW hs
  go_wp2
  exact bodyPost_ret (by simp[results,Tryz.results97,go_sem,z0,z1,z2,z3]) rfl HS.out
 with_reducible refine po_last ?_ (fun K hK=>?_)
 ·(go_simp;done)
 go_simp
 replace HX:=HX.litB [] zero_le_maxLen
 simp only[List.map_nil,List.length_nil]at HX
 replace hs:=four_keep hs (below_alloc _ (.cells #[] 4))
 revert HX hs
 generalize World.alloc _ _=wz
 intro HX hs
 refine hK.out _ _ (.inr (hs)) ?_
 clear hK K
 with_reducible refine po_last ?_ (fun K hK=>?_)
 ·(go_simp;done)
 go_simp
 refine (l7Copy_any _ _ _ a.store (hst.below HX.below) t1 t2 HN3.out).mono ?_
 rintro e w1 ⟨v1,rfl,ho,hb⟩
 obtain⟨cv,rvs,rv,rfl,HY⟩:=HX.madeH ho hb
 obtain⟨C,kC,rfl,-⟩:=HY.formC 0 rfl
 obtain⟨R,kR,rfl,-⟩:=HY.formI 1 rfl
 replace hs:=four_keep hs hb
 replace HX:=HY
 clear HY ho hb
 refine hK.out _ _ (.inr (hs)) ?_
 clear hK K
 with_reducible refine po_last ?_ (fun K hK=>?_)
 ·(go_simp;done)
 refine wp_pushBO (.tmp 6) (.tmp 8) rfl HX (2*1+0) rfl rfl rfl (hE.below HX.below) e1 ?_
 clear HX hs
 intro A5 k5 w5 HX
 have hs:=box4s HX (1+1+2*1+1) rfl
 refine hK.out _ _ (.inr (hs)) ?_
 clear hK K
 with_reducible refine po_last ?_ (fun K hK=>?_)
 ·(go_simp;done)
 refine wp_pushBO (.tmp 10) (.tmp 12) rfl HX (2*1+1) rfl rfl rfl (hF.below HX.below) e2 ?_
 clear HX hs
 intro A6 k6 w6 HX
 have hs:=box4s HX (1+1+2*1+1) rfl
 refine hK.out _ _ (.inr (hs)) ?_
 clear hK K
 repeat first|(with_reducible apply po_take;(·(go_simp;done));(·(intro w' hS';(try dsimp only at hS');go_simp;try with_reducible rfl));simp only[lpa])|(with_reducible apply po_skip;(·(go_simp;done));simp only[lpa])
 with_reducible refine po_last ?_ (fun K hK=>?_)
 ·(go_simp;done)
 have HZ:=HX.order [0,1,2,3,4] (L':=[.cells (.slice C a.store.cells.length kC) rvs a.store.cells,.ints (.slice R a.store.roots.length kR) a.store.roots,.bools (.slice A5 a.old.length k5) a.old,.bools (.slice A6 a.noted.length k6) a.noted,.box (w.heap.size+1) [.slice none 0 0,.slice none 0 0,.slice none 0 0,.slice none 0 0] 64]) (by decide) rfl
 obtain⟨y0,y1,y2,y3,y4,y5,y6,y7⟩:=box4 HZ 4 rfl
 go_simp
 have HW:=(((HZ.putBox 4 rfl 0 (.slice C a.store.cells.length kC)).putBox 4 rfl 1 (.slice R a.store.roots.length kR)).putBox 4 rfl 2 (.slice A5 a.old.length k5)).putBox 4 rfl 3 (.slice A6 a.noted.length k6)
 simp only[lsz]at HW
 refine hK.out _ _ (.inl rfl) ?_
 clear hK K
 refine po_done ?_
 obtain⟨z0,z1,z2,z3,-,-,-,-⟩:=box4 HW 4 rfl
 have HS:Hid (MadeAg w a (.returned (.agg #[.slice C a.store.cells.length kC,.slice R a.store.roots.length kR,.slice A5 a.old.length k5,.slice A6 a.noted.length k6])) _):=hid ⟨_,rvs,_,_,_,rfl,HW.take 4⟩
 clear HZ HX HW hs
 go_wp2
 exact bodyPost_ret (by simp[results,Tryz.results97,go_sem,z0,z1,z2,z3]) rfl HS.out
set_option maxHeartbeats 6400000 in
set_option maxRecDepth 20000 in
theorem specAgedValid_yes (w:World) (B:Nat) (v:Value) (a:Ag) (hh:RdAg w B v a) (A:AgOk a):
  Calls Tryz.prog 96 #[v] w fun e w'=>e=.returned (.bool true)/\Below w.heap.size w w':=by
 obtain⟨D,m,d,D',m',d',E,q,f,F,r,x,rfl,hC,hR,hE,hF⟩:=hh.top
 obtain⟨t1,-,t3,t4,-⟩:=ag_small A
 have hst:RdH w w.heap.size (.agg #[.slice D m d,.slice D' m' d']) a.store:=⟨_,_,_,_,_,_,rfl,hC,hR⟩
 have l1:=RdB.le1 hE;have l2:=RdB.le2 hE
 have l3:=RdB.le1 hF;have l4:=RdB.le2 hF
 have l5:=hC.le1;have l6:=hC.le2
 obtain rfl:q=m:=by have:=A.len1;omega
 obtain rfl:r=q:=by have:=A.len2;omega
 have HA:=hid A
 have HOk:=hid (good_iff.2 A.good)
 have HR3:Hid (∀ (c:Nat) (l:Cel),a.store.cells[c]?=some l->l.refs.length<=3):=hid fun c l hl=>(refs3 (good_iff.2 A.good) hl).1
 have H:=(Owns.nil w).box [.slice D r d,.slice D' m' d',.slice E r f,.slice F r x] 64
 obtain⟨⟨a0,a1⟩,a2,a3⟩:=box4s H 0 rfl
 clear A
 go_enter Tryz.func96,Tryz.ntmps96
 go_wp2_with fail
 refine (specHeapValid_any _ _ _ a.store (hst.below H.below)).mono ?_
 rintro e w1 ⟨rfl,hb⟩
 rw[HOk.out]
 replace H:=H.call hb
 clear hb a0 a1 a2 a3
 obtain⟨⟨a0,a1⟩,a2,a3⟩:=box4s H 0 rfl
 go_wp2_with fail
 clear a0 a1 a2 a3
 go_loopw [3] (fun i wr=>∃ k:Nat,i=.int .i64 k/\k<=r/\Owns w.heap.size w wr [.box w.heap.size [.slice D r d,.slice D' m' d',.slice E r f,.slice F r x] 64]) (fun i _=>r - (intOf i).toNat)
 case atStart=>exact⟨0,rfl,Nat.zero_le _,H⟩
 case round =>
  clear H
  obtain⟨k,rfl,hk,Hr⟩:=hrel
  obtain⟨⟨a0,a1⟩,a2,a3⟩:=box4s Hr 0 rfl
  by_cases hlt:k<r
  ·obtain⟨b,o,l,A2,n2,c2,rfl,hbb,hx,q1,q2,q3,hrf⟩:=hC.at_ hlt
   have hf3:=HR3.out k l hx.out
   have r1:=RdI.le1 hrf;have r2:=RdI.le2 hrf
   obtain⟨bE,oE,y,rfl,hbE,hy,p3⟩:=RdB.at_ hE hlt
   obtain⟨bF,oF,z,rfl,hbF,hz,p4⟩:=RdB.at_ hF hlt
   have hyo:atB a.old k=y:=atB_at hy.out
   have hzo:atB a.noted k=z:=atB_at hz.out
   have huo:usedN a.store.cells k=l.used:=usedN_at hx
   have hux:y=true->l.used=true:=fun h=>by rw[<-huo];exact HA.out.used k (by rw[hyo];exact h)
   have hzy:z=true->y=true:=fun h=>by rw[<-hyo];exact HA.out.sub k (by rw[hzo];exact h)
   have HBar:Hid (y=true->z=false->∀ zq:Nat,(zq:Int)∈l.refs->zq<r/\atB a.old zq=true):=hid fun h1 h2 zq hm=>by
    have h3:=HA.out.bar k l hx.out (by rw[hyo];exact h1) (by rw[hzo];exact h2) _ hm (by omega)
    simp only[Int.toNat_natCast]at h3
    have h4:=usedN_lt (HA.out.used zq h3)
    exact⟨by omega,h3⟩
   have g1:=keept q1 Hr.below
   have e1:=keept p3 Hr.below
   have e2:=keept p4 Hr.below
   clear hyo hzo huo hx hy hz
   cases y
   ·obtain rfl:z=false:=by cases z;rfl;exact absurd (hzy rfl) (by simp)
    clear hux hzy
    have q1':=q1
    go_wp2_with fail
    go_loopw [4] (fun i ws=>∃ j:Nat,i=.int .i64 j/\j<=n2/\Owns w.heap.size w ws [.box w.heap.size [.slice (some ⟨b,o,none⟩) r d,.slice D' m' d',.slice (some ⟨bE,oE,none⟩) r f,.slice (some ⟨bF,oF,none⟩) r x] 64]) (fun i _=>n2 - (intOf i).toNat)
    case atStart=>exact⟨0,rfl,Nat.zero_le _,Hr⟩
    case round =>
     obtain⟨j,rfl,hj,Hs⟩:=hrel
     have HBs:=Hs.below
     have g1:=keept q1 HBs
     have g3:=keept q3 HBs
     have e1:=keept p3 HBs
     have e2:=keept p4 HBs
     obtain⟨⟨a0,a1⟩,a2,a3⟩:=box4s Hs 0 rfl
     by_cases hlj:j<n2
     ·go_wp2
      go_roundw
      case rel=>exact⟨k+1,by go_num,by omega,Hs⟩
      case measure=>simp[intOf];omega
     ·go_wp2
      go_roundw
      case rel=>exact⟨k+1,by go_num,by omega,Hs⟩
      case measure=>simp[intOf];omega
   ·have hlu:=hux rfl
    rw[hlu]at q1 g1
    clear hux hzy hlu
    cases z
    ·skip
     go_wp2_with fail
     go_loopw [4] (fun i ws=>∃ j:Nat,i=.int .i64 j/\j<=n2/\Owns w.heap.size w ws [.box w.heap.size [.slice (some ⟨b,o,none⟩) r d,.slice D' m' d',.slice (some ⟨bE,oE,none⟩) r f,.slice (some ⟨bF,oF,none⟩) r x] 64]) (fun i _=>n2 - (intOf i).toNat)
     case atStart=>exact⟨0,rfl,Nat.zero_le _,Hr⟩
     case round =>
      obtain⟨j,rfl,hj,Hs⟩:=hrel
      have HBs:=Hs.below
      have g1:=keept q1 HBs
      have g3:=keept q3 HBs
      have e1:=keept p3 HBs
      have e2:=keept p4 HBs
      obtain⟨⟨a0,a1⟩,a2,a3⟩:=box4s Hs 0 rfl
      by_cases hlj:j<n2
      ·obtain⟨b2,o2,z,rfl,hbb2,hx2,p1⟩:=RdI.at_ hrf hlj
       have hzm:=List.mem_of_getElem? hx2.out
       have g4:=keept p1 HBs
       by_cases z0:z<0
       ·have z1:¬ (0:Int)<=z:=by omega
        clear p1 hx2 hzm
        go_wp2
        go_roundw
        case rel=>exact⟨j+1,by go_num,by omega,Hs⟩
        case measure=>simp[intOf];omega
       obtain⟨zq,rfl⟩:=Int.eq_ofNat_of_zero_le (by omega:0<=z)
       obtain⟨hz1,hz2⟩:=HBar.out (by simp) (by simp) zq hzm
       obtain⟨bO,oO,u,e,hbO,hu,p2⟩:=RdB.at_ hE (show zq<r by omega)
       simp only[Option.some.injEq,Addr.mk.injEq,and_true]at e
       obtain⟨rfl,rfl⟩:=e
       have hut:u=true:=by rw[<-atB_at hu.out];exact hz2
       subst hut
       have g5:=keept p2 HBs
       have z1:(0:Int)<=(zq:Int):=by omega
       have z2:(zq:Int)<(r:Int):=by omega
       clear p1 hx2 hzm p2 hu hz2
       go_wp2
       go_roundw
       case rel=>exact⟨j+1,by go_num,by omega,Hs⟩
       case measure=>simp[intOf];omega
      ·go_wp2
       go_roundw
       case rel=>exact⟨k+1,by go_num,by omega,Hs⟩
       case measure=>simp[intOf];omega
    ·skip
     go_wp2_with fail
     go_loopw [4] (fun i ws=>∃ j:Nat,i=.int .i64 j/\j<=n2/\Owns w.heap.size w ws [.box w.heap.size [.slice (some ⟨b,o,none⟩) r d,.slice D' m' d',.slice (some ⟨bE,oE,none⟩) r f,.slice (some ⟨bF,oF,none⟩) r x] 64]) (fun i _=>n2 - (intOf i).toNat)
     case atStart=>exact⟨0,rfl,Nat.zero_le _,Hr⟩
     case round =>
      obtain⟨j,rfl,hj,Hs⟩:=hrel
      have HBs:=Hs.below
      have g1:=keept q1 HBs
      have g3:=keept q3 HBs
      have e1:=keept p3 HBs
      have e2:=keept p4 HBs
      obtain⟨⟨a0,a1⟩,a2,a3⟩:=box4s Hs 0 rfl
      by_cases hlj:j<n2
      ·go_wp2
       go_roundw
       case rel=>exact⟨k+1,by go_num,by omega,Hs⟩
       case measure=>simp[intOf];omega
      ·go_wp2
       go_roundw
       case rel=>exact⟨k+1,by go_num,by omega,Hs⟩
       case measure=>simp[intOf];omega
  ·clear hk
   have HB:=Hr.below
   go_wp2
   go_ret
   exact⟨rfl,HB⟩
def RdPt (w:World) (B:Nat) (v:Value) (p:Pt):Prop:=
 ∃ A n c A' n' c' E q f,v=.agg #[.slice A n c,.slice A' n' c',.slice E q f,.bool p.act]/\RdC w B A n c p.store.cells/\RdI w B A' n' c' p.store.roots/\RdI w B E q f p.cols
theorem RdPt.below {w w':World}{B:Nat}{v:Value}{p:Pt}(hh:RdPt w B v p) (hb:Below B w w'):RdPt w' B v p:=by
 obtain⟨A,n,c,A',n',c',E,q,f,rfl,h1,h2,h3⟩:=hh
 exact⟨_,_,_,_,_,_,_,_,_,rfl,h1.below hb,h2.below hb,h3.below hb⟩
theorem RdPt.top {w:World}{B:Nat}{v:Value}{p:Pt}(hh:RdPt w B v p):RdPt w w.heap.size v p:=by
 obtain⟨A,n,c,A',n',c',E,q,f,rfl,h1,h2,h3⟩:=hh
 exact⟨_,_,_,_,_,_,_,_,_,rfl,h1.top,h2.top,h3.top⟩
theorem Owns.rdPt {lo:Nat}{w0 w:World}{L:List OB}(h:Owns lo w0 w L) (i j k:Nat) {cv rv ov:Value}{rvs:List Value}{p:Pt}(hX:L[i]?=some (.cells cv rvs p.store.cells)) (hY:L[j]?=some (.ints rv p.store.roots)) (hZ:L[k]?=some (.ints ov p.cols)):RdPt w w.heap.size (.agg #[cv,rv,ov,.bool p.act]) p:=by
 obtain⟨A,a1,rfl,h1⟩:=h.formC i hX
 obtain⟨C,c,rfl,h2⟩:=h.formI j hY
 obtain⟨E,e,rfl,h3⟩:=h.formI k hZ
 exact⟨_,_,_,_,_,_,_,_,_,rfl,h1,h2,h3⟩
def MadePt (w:World) (p:Pt) (e:Ending) (w':World):Prop:=∃ cv rvs rv ov,e=.returned (.agg #[cv,rv,ov,.bool p.act])/\Owns w.heap.size w w' [.cells cv rvs p.store.cells,.ints rv p.store.roots,.ints ov p.cols]
def MadePtB (w:World) (p:Pt) (b:Bool) (e:Ending) (w':World):Prop:=∃ cv rvs rv ov,e=.returned (.tuple #[.agg #[cv,rv,ov,.bool p.act],.bool b])/\Owns w.heap.size w w' [.cells cv rvs p.store.cells,.ints rv p.store.roots,.ints ov p.cols]
def MadePtN (w:World) (p:Pt) (e:Ending) (w':World):Prop:=∃ cv rvs rv ov n,e=.returned (.tuple #[.agg #[cv,rv,ov,.bool p.act],.int .i64 n])/\Owns w.heap.size w w' [.cells cv rvs p.store.cells,.ints rv p.store.roots,.ints ov p.cols]
theorem pt_small {p:Pt}(P:PtOk p):p.store.cells.length<=40/\p.store.roots.length<=4/\p.cols.length<=40/\Hid (∀ c∈p.store.cells,c.refs.length<=1048576):=by
 have h0:=good_iff.2 P.good
 obtain⟨s4,s5⟩:=heapOk_small h0
 have h1:=P.len
 refine⟨s4,by omega,by omega,hid fun c hc=>?_⟩
 obtain⟨j,hj,rfl⟩:=List.mem_iff_getElem.1 hc
 have:=(refs3 h0 (List.getElem?_eq_getElem hj)).1
 omega
theorem colA_at {cs:List Int}{i:Nat}{x:Int}(h:cs[i]?=some x):colA cs i=x:=by unfold colA;rw[List.getD_eq_getElem?_getD,h];rfl
theorem pt_leads {p:Pt}(P:PtOk p):(∀ r∈p.store.roots,0<=r->r.toNat<p.cols.length)/\∀ (c:Nat) (l:Cel),p.store.cells[c]?=some l->∀ r∈l.refs,0<=r->r.toNat<p.cols.length:=by
 obtain⟨h1,h2⟩:=heapOk_leads (good_iff.2 P.good)
 rw[P.len]
 exact⟨fun r hr h0=>usedN_lt (leadsB_used (h1 r hr) h0),fun c l hl r hr h0=>usedN_lt (leadsB_used (h2 c l hl r hr) h0)⟩
theorem pt_colour {p:Pt}(P:PtOk p) {k:Nat}{x:Int}{l:Cel}(hx:p.cols[k]?=some x) (hl:p.store.cells[k]?=some l):x=0\/((x=1\/x=2)/\l.used=true/\p.act=true):=by
 have e:=colA_at hx
 have h1:=P.range k
 have h2:=P.used k
 rw[e]at h1 h2
 by_cases h0:x=0
 ·exact .inl h0
 ·obtain⟨u1,u2⟩:=h2 h0
  refine .inr ⟨by omega,?_,u2⟩
  rw[usedN_at (hid hl)]at u1
  exact u1
set_option maxHeartbeats 1600000 in
set_option maxRecDepth 20000 in
theorem isWhite_no (w:World) (g:Nat) {E:Option Addr}{q f:Nat}{cols:List Int}(x2:w.cell? ⟨g,2,none⟩=some (.slice E q f)) {B:Nat}(hE:RdI w B E q f cols) {B':Nat}{A:Option Addr}{n c:Nat}{rs:List Int}(hr:RdI w B' A n c rs) (hno:∀ r∈rs,0<=r->r.toNat<q/\colA cols r.toNat≠0):
  Calls Tryz.prog 196 #[.pointer (some ⟨g,0,none⟩),.slice A n c] w fun e w'=>e=.returned (.bool false)/\w=w':=by
 have hm1:=hr.mx;have hcap1:=hr.cap
 have l1:=RdI.le1 hr;have l2:=RdI.le2 hr
 unfold maxLen at hm1
 have HNo:=hid hno
 clear hno
 go_enter Tryz.func196,Tryz.ntmps196
 go_wp2_with fail
 go_loopw [9] (fun i wr=>∃ k:Nat,i=.int .i64 k/\k<=n/\w=wr) (fun i _=>n - (intOf i).toNat)
 case atStart=>exact⟨0,rfl,Nat.zero_le _,rfl⟩
 case round =>
  obtain⟨k,rfl,hk,rfl⟩:=hrel
  by_cases hlt:k<n
  ·obtain⟨b,o,y,rfl,hbb,hy,p1⟩:=RdI.at_ hr hlt
   have hn:=HNo.out y (List.mem_of_getElem? hy.out)
   by_cases y0:y<0
   ·have y1:¬ (0:Int)<=y:=by omega
    clear hn
    go_wp2
    go_roundw
    case rel=>exact⟨k+1,by go_num,by omega,trivial⟩
    case measure=>simp[intOf];omega
   obtain⟨qq,rfl⟩:=Int.eq_ofNat_of_zero_le (by omega:0<=y)
   have y1:(0:Int)<=(qq:Int):=by omega
   obtain⟨n1,n2⟩:=hn y1
   simp only[Int.toNat_natCast]at n1 n2
   have y2:(qq:Int)<(q:Int):=by omega
   obtain⟨bE,oE,z,rfl,hbE,hz,p2⟩:=RdI.at_ hE n1
   rw[colA_at hz.out]at n2
   clear hy hz
   go_wp2
   go_roundw
   case rel=>exact⟨k+1,by go_num,by omega,trivial⟩
   case measure=>simp[intOf];omega
  ·go_wp2
   exact bodyPost_ret (v:=.bool false) (by simp[results,Tryz.results196,go_sem]) rfl ⟨rfl,rfl⟩
set_option maxHeartbeats 6400000 in
set_option maxRecDepth 20000 in
theorem implPaintValid_yes (w:World) (B:Nat) (v:Value) (p:Pt) (hh:RdPt w B v p) (P:PtOk p):
  Calls Tryz.prog 193 #[v] w fun e w'=>e=.returned (.bool true)/\Below w.heap.size w w':=by
 obtain⟨D,m,d,D',m',d',E,q,f,rfl,hC,hR,hE⟩:=hh.top
 obtain⟨t1,t2,t3,HN3⟩:=pt_small P
 have hst:RdH w w.heap.size (.agg #[.slice D m d,.slice D' m' d']) p.store:=⟨_,_,_,_,_,_,rfl,hC,hR⟩
 have l1:=RdI.le1 hE;have l2:=RdI.le2 hE
 have l5:=hC.le1;have l6:=hC.le2
 have l7:=RdI.le1 hR;have l8:=RdI.le2 hR
 obtain rfl:q=m:=by have:=P.len;omega
 have HP:=hid P
 have HOk:=hid (good_iff.2 P.good)
 have HLd:=hid (pt_leads P)
 have HqL:Hid (p.cols.length=q):=hid (by omega)
 have hqq:q<=40:=by omega
 have H:=(Owns.nil w).box [.slice D q d,.slice D' m' d',.slice E q f,.bool p.act] 109
 obtain⟨⟨a0,a1⟩,a2,a3⟩:=box4s H 0 rfl
 clear P
 go_enter Tryz.func193,Tryz.ntmps193
 go_wp2_with fail
 refine (heapValid_any _ _ _ p.store (hst.below H.below)).mono ?_
 rintro e w1 ⟨rfl,hb⟩
 rw[HOk.out]
 replace H:=H.call hb
 clear hb a0 a1 a2 a3
 obtain⟨⟨a0,a1⟩,a2,a3⟩:=box4s H 0 rfl
 go_wp2_with fail
 clear a0 a1 a2 a3
 go_loopw [23] (fun i wr=>∃ k:Nat,i=.int .i64 k/\k<=q/\Owns w.heap.size w wr [.box w.heap.size [.slice D q d,.slice D' m' d',.slice E q f,.bool p.act] 109]) (fun i _=>q - (intOf i).toNat)
 case atStart=>exact⟨0,rfl,Nat.zero_le _,H⟩
 case round =>
  clear H
  obtain⟨k,rfl,hk,H⟩:=hrel
  obtain⟨⟨a0,a1⟩,a2,a3⟩:=box4s H 0 rfl
  by_cases hlt:k<q
  ·obtain⟨bC,oC,l,A2,n2,c2,rfl,hbb,hx,q1,q2,q3,hrf⟩:=hC.at_ hlt
   obtain⟨bE,oE,z,rfl,hbE,hz,p1⟩:=RdI.at_ hE hlt
   have g1:=H.ro q1 hbb
   have g2:=H.ro q2 hbb
   have g3:=H.ro q3 hbb
   have g4:=H.ro p1 hbE
   have HCo:=pt_colour HP.out hz.out hx.out
   have H0:=H.box [.bool l.used,.int .i64 l.data,.slice A2 n2 c2] 68
   have HB:Hid (z=2->∀ r∈l.refs,0<=r->r.toNat<q/\colA p.cols r.toNat≠0):=hid fun e r hr h0=>⟨by rw[<-HqL.out];exact HLd.out.2 k l hx.out r hr h0,HP.out.black k l hx.out (by rw[colA_at hz.out];exact e) r hr h0⟩
   clear q1 q2 q3 hx hz p1
   rcases HCo with z0|⟨z0,u1,u2⟩
   ·have z1:¬ z<0:=by omega
    have z2:¬ 2<z:=by omega
    have z3:(z != 0)=false:=by simp[z0]
    have z4:(z == 2)=false:=by simp[z0]
    have H5:=H0.erase 0
    simp only[List.eraseIdx_cons_zero]at H5
    clear HB z0 H
    go_wp2
    go_roundw
    case rel=>exact⟨k+1,by go_num,by omega,H5⟩
    case measure=>simp[intOf];omega
   ·have z1:¬ z<0:=by omega
    have z2:¬ 2<z:=by omega
    have z3:(z != 0)=true:=by simp;omega
    have hU:undef=Value.tuple #[]:=rfl
    rw[u1]at g1 H0
    obtain⟨⟨e0,e1⟩,e2,e3⟩:=box4s H0 1 rfl
    rw[u2]at e3 a3
    clear u1 u2
    by_cases zz:z=2
    ·have z4:(z == 2)=true:=by simp[zz]
     have HB2:=hid (HB.out zz)
     have H5:=H0.erase 0
     simp only[List.eraseIdx_cons_zero]at H5
     clear HB z0 zz H hU
     go_wp2_with fail
     refine (isWhite_no _ _ e2 (hE.below H0.below) (hrf.below H0.below) HB2.out).mono ?_
     rintro e wv ⟨rfl,hw⟩
     obtain rfl:=hw
     go_wp2
     go_roundw
     case rel=>exact⟨k+1,by go_num,by omega,H5⟩
     case measure=>simp[intOf];omega
    ·have z4:(z == 2)=false:=by simp[zz]
     have H5:=H0.erase 0
     simp only[List.eraseIdx_cons_zero]at H5
     clear HB z0 zz H hU
     go_wp2
     go_roundw
     case rel=>exact⟨k+1,by go_num,by omega,H5⟩
     case measure=>simp[intOf];omega
  ·have HQ:Hid (∀ b:Bool,Below w.heap.size w wr):=hid fun _=>H.below
   cases ha:p.act
   ·rw[ha]at a3
    clear H
    go_wp2
    exact bodyPost_ret (v:=.bool true) (by simp[results,Tryz.results193,go_sem]) rfl ⟨rfl,HQ.out true⟩
   ·have HRo:Hid (∀ r∈p.store.roots,0<=r->r.toNat<q/\colA p.cols r.toNat≠0):=hid fun r hr h0=>⟨by rw[<-HqL.out];exact HLd.out.1 r hr h0,HP.out.root ha r hr h0⟩
    rw[ha]at a3
    go_wp2_with fail
    refine (isWhite_no _ _ a2 (hE.below H.below) (hR.below H.below) HRo.out).mono ?_
    rintro e wv ⟨rfl,hw⟩
    obtain rfl:=hw
    clear H
    go_wp2
    exact bodyPost_ret (v:=.bool true) (by simp[results,Tryz.results193,go_sem]) rfl ⟨rfl,HQ.out true⟩
set_option maxHeartbeats 3200000 in
set_option maxRecDepth 20000 in
theorem copyPaint_any (w:World) (B:Nat) (v:Value) (p:Pt) (hh:RdPt w B v p) (P:PtOk p):
  Calls Tryz.prog 194 #[v] w (MadePt w p):=by
 obtain⟨D,m,d,D',m',d',E,q,f,rfl,hC,hR,hE⟩:=hh.top
 obtain⟨t1,t2,t3,HN3⟩:=pt_small P
 have hst:RdH w w.heap.size (.agg #[.slice D m d,.slice D' m' d']) p.store:=⟨_,_,_,_,_,_,rfl,hC,hR⟩
 have l1:=RdI.le1 hE
 have H:=((Owns.nil w).box [.slice D m d,.slice D' m' d',.slice E q f,.bool p.act] 109).box [.slice none 0 0,.slice none 0 0,.slice none 0 0,.bool false] 109
 simp only[lnm]at H
 clear P
 go_enter Tryz.func194,Tryz.ntmps194
 go_wp2_with fail
 have HX:=H.drew
 clear H
 have hs:=box4s HX 1 rfl
 refine wp_region_tree (fun w'=>(w'.cell? ⟨w.heap.size,0,none⟩=some (.slice D m d)/\w'.cell? ⟨w.heap.size,1,none⟩=some (.slice D' m' d'))/\w'.cell? ⟨w.heap.size,2,none⟩=some (.slice E q f)/\w'.cell? ⟨w.heap.size,3,none⟩=some (.bool p.act)) 9 [] (.take 0 (.take 1 (.take 3 (.take 4 (.take 6 (.take 7 (.alt 2 (.alt 5 (.take 8 (.alt 9 (.done) (.stop))) (.stop)) (.stop)))))))) (by kernel_rfl) (by kernel_rfl) (by kernel_rfl) (hs) ?_
 simp only[fillT,lgz,Nat.reduceBEq]
 repeat first|(with_reducible apply po_take;(·(go_simp;done));(·(intro w' hS';(try dsimp only at hS');go_simp;try with_reducible rfl));simp only[lpa])|(with_reducible apply po_skip;(·(go_simp;done));simp only[lpa])
 with_reducible refine po_last ?_ (fun K hK=>?_)
 ·(go_simp;done)
 go_simp
 refine (copyHeap_any _ _ _ p.store (hst.below HX.below) (by omega) (by omega) HN3.out).mono ?_
 rintro e w1 ⟨v1,rfl,ho,hb⟩
 obtain⟨cv,rvs,rv,rfl,HY⟩:=HX.madeH ho hb
 obtain⟨C,kC,rfl,-⟩:=HY.formC 0 rfl
 obtain⟨R,kR,rfl,-⟩:=HY.formI 1 rfl
 clear HX ho hb hs
 have HX:=HY
 clear HY
 have hs:=box4s HX 3 rfl
 refine hK.out _ _ (.inr (hs)) ?_
 clear hK K
 with_reducible refine po_last ?_ (fun K hK=>?_)
 ·(go_simp;done)
 go_simp
 refine (clone_any _ _ E q f p.cols (hE.below HX.below) (by omega)).mono ?_
 rintro e w2 ⟨hv,rfl,ho,hb⟩
 have HY:=HX.madeI ho hb
 obtain⟨V,kV,rfl,-⟩:=HY.formI 0 rfl
 clear HX ho hb hs
 have HX:=HY
 clear HY
 have hs:=box4s HX 4 rfl
 refine hK.out _ _ (.inr (hs)) ?_
 clear hK K
 repeat first|(with_reducible apply po_take;(·(go_simp;done));(·(intro w' hS';(try dsimp only at hS');go_simp;try with_reducible rfl));simp only[lpa])|(with_reducible apply po_skip;(·(go_simp;done));simp only[lpa])
 with_reducible refine po_last ?_ (fun K hK=>?_)
 ·(go_simp;done)
 obtain⟨y0,y1,y2,y3,y4,y5,y6,y7⟩:=box4 HX 3 rfl
 go_simp
 have HZ:=(((HX.putBox 3 rfl 0 (.slice C p.store.cells.length kC)).putBox 3 rfl 1 (.slice R p.store.roots.length kR)).putBox 3 rfl 2 (.slice V p.cols.length kV)).putBox 3 rfl 3 (.bool p.act)
 simp only[lsz]at HZ
 clear HX hs
 refine hK.out _ _ (.inl rfl) ?_
 clear hK K
 refine po_done ?_
 obtain⟨z0,z1,z2,z3,-,-,-,-⟩:=box4 HZ 3 rfl
 have HS:Hid (MadePt w p (.returned (.agg #[.slice C p.store.cells.length kC,.slice R p.store.roots.length kR,.slice V p.cols.length kV,.bool p.act])) _):=hid ⟨_,rvs,_,_,rfl,HZ.order [1,2,0] (by decide) rfl⟩
 clear HZ
 go_wp2
 exact bodyPost_ret (by simp[results,Tryz.results194,go_sem,z0,z1,z2,z3]) rfl HS.out
theorem Owns.putN {lo:Nat}{w0 w:World}{L:List OB}{g n c:Nat}{xs:List Int}(h:Owns lo w0 w L) (i:Nat) (hX:L[i]?=some (.rowN (.slice (some ⟨g,0,none⟩) n c) n xs)) (j:Nat) (x:Int):Owns lo w0 (w.setCell ⟨g,j,none⟩ (.int .i64 x)) (L.set i (.rowN (.slice (some ⟨g,0,none⟩) n c) n (xs.set j x))):=by
 have:=h.putRow i hX j (.int .i64 x)
 rwa [<-List.map_set]at this
theorem Owns.refsR {lo:Nat}{w0 w:World}{L:List OB}{v:Value}{rvs:List Value}{cs:List Cel}(h:Owns lo w0 w L) (i:Nat) (hX:L[i]?=some (.cells v rvs cs)) {k:Nat}{l:Cel}{A:Option Addr}{n c:Nat}(hc:cs[k]?=some l) (hr:rvs[k]?=some (.slice A n c)):RdI w w.heap.size A n c l.refs:=
 ((h.owC i hX).refs k _ l hr hc).rdI
theorem greys_snoc (cs xs:List Int) (y:Int):greys cs (xs++[y])=greyI (greys cs xs) y:=by unfold greys;rw[List.foldl_append];rfl
theorem greyI_neg {cs:List Int}{y:Int}(h:y<0):greyI cs y=cs:=by unfold greyI;rw[if_neg (fun q=>by omega)]
theorem greyI_off {cs:List Int}{n:Nat}(h:colA cs n≠0):greyI cs (n:Int)=cs:=by unfold greyI;rw[if_neg (fun q=>h (by simpa using q.2))]
theorem greyI_on {cs:List Int}{n:Nat}(h:colA cs n=0):greyI cs (n:Int)=cs.set n 1:=by unfold greyI;rw[if_pos ⟨by omega,by simpa using h⟩];simp
theorem ptNext_eq {p:Pt}{k:Nat}(h:∀ i,i<k->colA p.cols i≠1) (hk:p.cols[k]?=some 1):ptNext p=k:=by
 have hl:=(List.getElem?_eq_some_iff.1 hk).1
 have h1:¬ ptNext p<k:=fun hn=>h _ hn (ptNext_at (by omega))
 have h2:¬ k<ptNext p:=fun hn=>by
  have:=List.not_of_lt_findIdx (p:=fun c:Int=>c == 1) (xs:=p.cols) hn
  rw[(List.getElem?_eq_some_iff.1 hk).2]at this
  simp at this
 omega
theorem ptNext_no {p:Pt}(h:∀ i,i<p.cols.length->colA p.cols i≠1):¬ ptNext p<p.cols.length:=fun hn=>h _ hn (ptNext_at hn)
set_option maxHeartbeats 3200000 in
set_option maxRecDepth 20000 in
theorem grey_own {lo:Nat}{w0 w:World}{L:List OB}{g:Nat}{vC vR b:Value}{E:Option Addr}{q k:Nat}{cols:List Int}(H:Owns lo w0 w (.box g [vC,vR,.slice E q k,b] 109::.rowN (.slice E q k) q cols::L)) (hq:cols.length=q)
  {A:Option Addr} {n c:Nat} {rs:List Int} (hr:∀ w' xs,Owns lo w0 w' (.box g [vC,vR,.slice E q k,b] 109::.rowN (.slice E q k) q xs::L)->RdI w' w'.heap.size A n c rs) (hl:∀ r∈rs,0<=r->r.toNat<q) (hq4:q<=1048576):
  Calls Tryz.prog 192 #[.pointer (some ⟨g,0,none⟩),.slice A n c] w fun e w' =>
   (∃ u,e=.returned u)/\Owns lo w0 w' (.box g [vC,vR,.slice E q k,b] 109::.rowN (.slice E q k) q (greys cols rs)::L):=by
 have hr0:=hr _ _ H
 have hm1:=hr0.mx;have hcap1:=hr0.cap
 have l1:=RdI.le1 hr0;have l2:=RdI.le2 hr0
 unfold maxLen at hm1
 have HR:=hid hr
 have HL:=hid hl
 have HQ:=hid hq
 clear hr0 hr hl hq
 go_enter Tryz.func192,Tryz.ntmps192
 go_wp2_with fail
 go_loopw [8] (fun i wr=>∃ j:Nat,i=.int .i64 j/\j<=n/\Owns lo w0 wr (.box g [vC,vR,.slice E q k,b] 109::.rowN (.slice E q k) q (greys cols (rs.take j))::L)) (fun i _=>n - (intOf i).toNat)
 case atStart=>exact⟨0,rfl,Nat.zero_le _,by simpa [greys] using H⟩
 case round =>
  clear H
  obtain⟨j,rfl,hj,H⟩:=hrel
  obtain⟨⟨a0,a1⟩,a2,a3⟩:=box4s H 0 rfl
  by_cases hlt:j<n
  ·obtain⟨b',o,y,rfl,hbb,hy,p1⟩:=RdI.at_ (HR.out _ _ H) hlt
   have hS:greys cols (rs.take (j+1))=greyI (greys cols (rs.take j)) y:=by rw[take_snoc' hy,greys_snoc]
   have hyl:=HL.out y (List.mem_of_getElem? hy.out)
   have hXl:(greys cols (rs.take j)).length=q:=by rw[greys_len];exact HQ.out
   generalize greys cols (rs.take j)=X at *
   clear hy
   by_cases y0:y<0
   ·have HT:Hid (greys cols (rs.take (j+1))=X):=hid (by rw[hS,greyI_neg y0])
    have y1:¬ (0:Int)<=y:=by omega
    clear hS hyl hXl
    go_wp2
    go_roundw
    case rel=>exact⟨j+1,by go_num,by omega,by rw[HT.out];exact H⟩
    case measure=>simp[intOf];omega
   obtain⟨qq,rfl⟩:=Int.eq_ofNat_of_zero_le (by omega:0<=y)
   have y1:(0:Int)<=(qq:Int):=by omega
   have hqq:=hyl y1
   simp only[Int.toNat_natCast]at hqq
   have y2:(qq:Int)<(q:Int):=by omega
   obtain⟨z,hz⟩:∃ z,Hid (X[qq]?=some z):=⟨_,hid (List.getElem?_eq_getElem (by omega))⟩
   obtain⟨gV,cV,e,-,-,-,-⟩:=H.rowAt 1 rfl (by omega)
   simp only[Value.slice.injEq,true_and]at e
   obtain⟨rfl,rfl⟩:=e
   obtain⟨m0,mf⟩:=H.elem 1 rfl (j:=qq) (u:=.int .i64 z) (by rw[List.getElem?_map,hz.out];rfl)
   have hzc:=colA_at hz.out
   clear hyl hz hXl
   by_cases z0:z=0
   ·have HT:Hid (greys cols (rs.take (j+1))=X.set qq 1):=hid (by rw[hS,greyI_on (by rw[hzc];exact z0)])
    have k1:(z == 0)=true:=by simp[z0]
    have H2:=H.putN 1 rfl qq 1
    simp only[lsz]at H2
    have HO:=hid H2
    clear hS hzc z0 H H2
    go_wp2
    go_roundw
    case rel=>exact⟨j+1,by go_num,by omega,by rw[HT.out];exact HO.out⟩
    case measure=>simp[intOf];omega
   ·have HT:Hid (greys cols (rs.take (j+1))=X):=hid (by rw[hS,greyI_off (by rw[hzc];exact z0)])
    have k1:(z == 0)=false:=by simp[z0]
    clear hS hzc z0
    go_wp2
    go_roundw
    case rel=>exact⟨j+1,by go_num,by omega,by rw[HT.out];exact H⟩
    case measure=>simp[intOf];omega
  ·rw[List.take_of_length_le (by omega)]at H
   go_wp2
   refine bodyPost_end (results_none rfl _ _ _) rfl ?_
   exact⟨⟨_,rfl⟩,H⟩
abbrev ptL (g:Nat) (C R E:Option Addr) (n m q kC kR kE:Nat) (rvs:List Value) (p:Pt) (L:List OB):List OB:=
 .box g [.slice C n kC,.slice R m kR,.slice E q kE,.bool p.act] 109::.rowN (.slice E q kE) q p.cols::.cells (.slice C n kC) rvs p.store.cells::.ints (.slice R m kR) p.store.roots::L
theorem start_eq {p:Pt}(h:p.act=true):ptStart p=p:=by unfold ptStart;rw[if_pos h]
theorem start_ne {p:Pt}(h:p.act=false):ptStart p=⟨p.store,greys p.cols p.store.roots,true⟩:=by unfold ptStart;rw[h,if_neg Bool.false_ne_true]
set_option maxHeartbeats 1600000 in
set_option maxRecDepth 20000 in
theorem start_own {lo:Nat}{w0 w:World}{L:List OB}{g:Nat}{C R E:Option Addr}{n m q kC kR kE:Nat}{rvs:List Value}{p:Pt}(H:Owns lo w0 w (ptL g C R E n m q kC kR kE rvs p L)) (P:PtOk p) (hq:p.cols.length=q):
  Calls Tryz.prog 189 #[.pointer (some ⟨g,0,none⟩)] w fun e w'=>(∃ u,e=.returned u)/\Owns lo w0 w' (ptL g C R E n m q kC kR kE rvs (ptStart p) L):=by
 obtain⟨t1,t2,t3,-⟩:=pt_small P
 have HLd:=hid (pt_leads P)
 obtain⟨pst,pcs,pact⟩:=p
 simp only at H t1 t2 t3 hq
 obtain⟨a0,a1,a2,a3,b0,b1,b2,b3⟩:=box4 H 0 rfl
 cases pact
 ·have HE:=hid (start_ne (p:=⟨pst,pcs,false⟩) rfl)
  have H2:=H.putBox 0 rfl 3 (.bool true)
  simp only[lsz]at H2
  clear H P
  go_enter Tryz.func189,Tryz.ntmps189
  go_wp2_with fail
  refine (grey_own H2 hq (rs:=pst.roots) (fun w' xs H'=>(H'.owI 3 rfl).rdI) (fun r hr h0=>by rw[<-hq];exact HLd.out.1 r hr h0) (by omega)).mono ?_
  rintro e w5 ⟨⟨u,rfl⟩,H3⟩
  go_wp2
  refine bodyPost_end (results_none rfl _ _ _) rfl ?_
  exact⟨⟨_,rfl⟩,by rw[HE.out];exact H3⟩
 ·have HE:=hid (start_eq (p:=⟨pst,pcs,true⟩) rfl)
  clear P
  go_enter Tryz.func189,Tryz.ntmps189
  go_wp2
  refine bodyPost_end (results_none rfl _ _ _) rfl ?_
  exact⟨⟨_,rfl⟩,by rw[HE.out];exact H⟩
theorem step_at {p:Pt}{k:Nat}{l:Cel}(h:∀ i,i<k->colA p.cols i≠1) (hk:p.cols[k]?=some 1) (hl:p.store.cells[k]?=some l):ptStep p=⟨p.store,(greys p.cols l.refs).set k 2,p.act⟩/\decide (ptNext p<p.cols.length)=true:=by
 have e:=ptNext_eq h hk
 have hkl:=(List.getElem?_eq_some_iff.1 hk).1
 unfold ptStep
 rw[e,if_pos hkl,List.getD_eq_getElem?_getD,hl]
 exact⟨rfl,decide_eq_true hkl⟩
theorem step_no {p:Pt}(h:∀ i,i<p.cols.length->colA p.cols i≠1):ptStep p=p/\decide (ptNext p<p.cols.length)=false:=⟨ptStep_done (ptNext_no h),decide_eq_false (ptNext_no h)⟩
set_option maxHeartbeats 3200000 in
set_option maxRecDepth 20000 in
theorem step_own {lo:Nat}{w0 w:World}{L:List OB}{g:Nat}{C R E:Option Addr}{n m q kC kR kE:Nat}{rvs:List Value}{p:Pt}(H:Owns lo w0 w (ptL g C R E n m q kC kR kE rvs p L)) (P:PtOk p) (hq:p.cols.length=q):
  Calls Tryz.prog 190 #[.pointer (some ⟨g,0,none⟩)] w fun e w'=>e=.returned (.bool (decide (ptNext p<p.cols.length)))/\Owns lo w0 w' (ptL g C R E n m q kC kR kE rvs (ptStep p) L):=by
 obtain⟨t1,t2,t3,-⟩:=pt_small P
 have HLd:=hid (pt_leads P)
 have HP:=hid P
 have hcl:p.store.cells.length=q:=by rw[<-hq];exact P.len.symm
 obtain⟨⟨a0,a1⟩,a2,a3⟩:=box4s H 0 rfl
 clear P
 go_enter Tryz.func190,Tryz.ntmps190
 go_wp2_with fail
 clear a0 a1 a2 a3
 go_loopw [10] (fun i wr=>∃ k:Nat,i=.int .i64 k/\k<=q/\Hid (∀ i,i<k->colA p.cols i≠1)/\Owns lo w0 wr (ptL g C R E n m q kC kR kE rvs p L)) (fun i _=>q - (intOf i).toNat)
 case atStart=>exact⟨0,rfl,Nat.zero_le _,hid (fun i hi=>absurd hi (by omega)),H⟩
 case round =>
  clear H
  obtain⟨k,rfl,hk,HN,H⟩:=hrel
  obtain⟨⟨a0,a1⟩,a2,a3⟩:=box4s H 0 rfl
  by_cases hlt:k<q
  ·obtain⟨z,hz⟩:∃ z,Hid (p.cols[k]?=some z):=⟨_,hid (List.getElem?_eq_getElem (by omega))⟩
   obtain⟨l,hl⟩:∃ l,Hid (p.store.cells[k]?=some l):=⟨_,hid (List.getElem?_eq_getElem (by omega))⟩
   have hco:=pt_colour HP.out hz.out hl.out
   obtain⟨gV,cV,e,-,-,-,-⟩:=H.rowAt 1 rfl (by omega)
   simp only[Value.slice.injEq,true_and]at e
   obtain⟨rfl,rfl⟩:=e
   obtain⟨m0,mf⟩:=H.elem 1 rfl (j:=k) (u:=.int .i64 z) (by rw[List.getElem?_map,hz.out];rfl)
   by_cases z1:z=1
   ·have HS:=hid (step_at HN.out (by rw[hz.out,z1]) hl.out)
    have hact:p.act=true:=by rcases hco with e|⟨-,-,e⟩;omega;exact e
    have k1:(z == 1)=true:=by simp[z1]
    obtain⟨gC,cC,A2,c2,e,hrv,y0,y1,y2,-⟩:=H.cellW 2 rfl hl
    simp only[Value.slice.injEq]at e
    obtain⟨rfl,rfl,rfl⟩:=e
    have hat:((some ⟨gV,0,none⟩:Option Addr)).isSome=true:=rfl
    have HG:=grey_own (b:=.bool p.act) H hq (rs:=l.refs) (fun w' xs H'=>H'.refsR 2 rfl hl.out hrv.out) (fun r hr h0=>by rw[<-hq];exact HLd.out.2 k l hl.out r hr h0) (by omega)
    have HGl:Hid ((greys p.cols l.refs).length=q):=hid (by rw[greys_len];exact hq)
    rw[hact]at a3
    clear hco hact z1 hz hrv y0 y1 mf hat
    go_wp2_with fail
    refine HG.mono ?_
    rintro e w5 ⟨⟨u,rfl⟩,H3⟩
    clear a0 a1 a2 a3 m0 y2 H HG
    obtain⟨⟨a0,a1⟩,a2,-⟩:=box4s H3 0 rfl
    obtain⟨x,hx⟩:∃ x,Hid ((greys p.cols l.refs)[k]?=some x):=⟨_,hid (List.getElem?_eq_getElem (by rw[HGl.out];exact hlt))⟩
    obtain⟨m0,mf⟩:=H3.elem 1 rfl (j:=k) (u:=.int .i64 x) (by rw[List.getElem?_map,hx.out];rfl)
    have H4:=H3.putN 1 rfl k 2
    simp only[lsz]at H4
    have HO:=hid H4
    clear H3 H4 hx
    go_wp2
    exact bodyPost_ret (v:=.bool true) (by simp[results,Tryz.results190,go_sem]) rfl ⟨by rw[HS.out.2],by rw[HS.out.1];exact HO.out⟩
   ·have k1:(z == 1)=false:=by simp[z1]
    have HN2:Hid (∀ i,i<k+1->colA p.cols i≠1):=hid (fun i hi=>by
     by_cases e:i=k
     ·subst e;rw[colA_at hz.out];exact z1
     ·exact HN.out i (by omega))
    have HK:=hid H
    clear hco z1 hz mf H
    cases ha:p.act <;> rw[ha]at a3
    ·go_wp2
     go_roundw
     case rel=>exact⟨k+1,by go_num,by omega,HN2,HK.out⟩
     case measure=>simp[intOf];omega
    ·go_wp2
     go_roundw
     case rel=>exact⟨k+1,by go_num,by omega,HN2,HK.out⟩
     case measure=>simp[intOf];omega
  ·have HS:=hid (step_no (p:=p) (fun i hi=>HN.out i (by omega)))
   go_wp2
   exact bodyPost_ret (v:=.bool false) (by simp[results,Tryz.results190,go_sem]) rfl ⟨by rw[HS.out.2],by rw[HS.out.1];exact H⟩
set_option maxHeartbeats 1600000 in
theorem freeCellsP_own {lo:Nat}{w0 w:World}{M:List OB}{g:Nat}{cv rv e3 e4:Value}{Y:OB}{tt:TypeId}{rvs:List Value}{cs:List Cel}{S:Nat}(h:Owns lo w0 w (.box g [cv,rv,e3,e4] tt::Y::.cells cv rvs cs::M)) (hS:S<2 ^ 64) (hn:cs.length<=1048576):
  Calls Tryz.prog 161 #[.pointer (some ⟨g,0,none⟩),.int .u64 S] w fun e w'=>e=.returned (.int .i64 (cntTo S cs cs.length:Nat))/\∃ rvs',Owns lo w0 w' (.box g [cv,rv,e3,e4] tt::Y::.cells cv rvs' (wipeTo S cs cs.length)::M):=by
 obtain⟨C,kC,rfl,-⟩:=h.formC 2 rfl
 obtain⟨⟨x0,x1⟩,-,-⟩:=box4s h 0 rfl
 have HM:=hid hS
 clear hS
 go_enter Tryz.func161,Tryz.ntmps161
 go_wp2_with fail
 go_loopw [5,12] (fun v5 i wr=>∃ (k:Nat) (rvs':List Value),i=.int .i64 k/\k<=cs.length/\v5=.int .i64 (cntTo S cs k:Nat)/\Owns lo w0 wr (.box g [.slice C cs.length kC,rv,e3,e4] tt::Y::.cells (.slice C cs.length kC) rvs' (wipeTo S cs k)::M)) (fun _ i _=>cs.length - (intOf i).toNat)
 case atStart=>exact⟨0,rvs,rfl,Nat.zero_le _,rfl,by rw[wipeTo_zero];exact h⟩
 case round =>
  clear h x0 x1
  obtain⟨k,rvs',rfl,hk,rfl,H⟩:=hrel
  obtain⟨⟨x0,x1⟩,-,-⟩:=box4s H 0 rfl
  have hc:=cntTo_le S cs k
  by_cases hlt:k<cs.length
  ·obtain⟨l,hl⟩:∃ l,Hid (cs[k]?=some l):=⟨_,hid (List.getElem?_eq_getElem hlt)⟩
   obtain⟨gC,cC,x,e7,⟨y0,y1,y2⟩,z0,z1,z2⟩:=H.cell3 2 rfl (hid (wipeTo_at (S:=S) hl))
   simp only[Value.slice.injEq]at e7
   obtain⟨rfl,-,rfl⟩:=e7
   have HB:=hid (hasB_nat S k)
   have hg:=goneB_at (S:=S) hl
   cases hb:S.testBit k
   ·rw[hb,Bool.false_and]at hg
    have H1:=hid (wipeTo_no hg)
    have H2:=hid (cntTo_no hg)
    have HV:=hid (HB.out.trans hb)
    clear hg hb HB
    go_wp2_with fail
    refine (has_any _ (k:Int) _ HM.out).mono ?_
    rintro e w5 ⟨rfl,hw5⟩
    obtain rfl:=hw5
    rw[HV.out]
    go_wp2
    go_roundw
    case rel=>exact⟨k+1,_,by go_num,by omega,by rw[H2.out],by rw[H1.out];exact H⟩
    case measure=>simp[intOf];omega
   ·have HV:=hid (HB.out.trans hb)
    rw[hb,Bool.true_and]at hg
    cases hu:l.used
    ·rw[hu]at y0 hg
     have H1:=hid (wipeTo_no hg)
     have H2:=hid (cntTo_no hg)
     clear hg hb HB hu
     go_wp2_with fail
     refine (has_any _ (k:Int) _ HM.out).mono ?_
     rintro e w5 ⟨rfl,hw5⟩
     obtain rfl:=hw5
     rw[HV.out]
     go_wp2
     go_roundw
     case rel=>exact⟨k+1,_,by go_num,by omega,by rw[H2.out],by rw[H1.out];exact H⟩
     case measure=>simp[intOf];omega
    ·rw[hu]at y0 hg
     have H1:=hid (wipeTo_yes hg)
     have H2:=hid (cntTo_yes hg)
     have H7:=H.wipe 2 rfl (by rw[wipeTo_len]) k (by rw[wipeTo_len];exact hlt)
     rw[<-H1.out]at H7
     clear hg hb HB hu
     go_wp2_with fail
     refine (has_any _ (k:Int) _ HM.out).mono ?_
     rintro e w5 ⟨rfl,hw5⟩
     obtain rfl:=hw5
     rw[HV.out]
     go_wp2
     go_roundw
     case rel=>exact⟨k+1,_,by go_num,by omega,by rw[H2.out];go_num,H7⟩
     case measure=>simp[intOf];omega
  ·obtain rfl:k=cs.length:=by omega
   have HO:Hid (∃ rvs',Owns lo w0 wr (.box g [.slice C cs.length kC,rv,e3,e4] tt::Y::.cells (.slice C cs.length kC) rvs' (wipeTo S cs cs.length)::M)):=hid ⟨rvs',H⟩
   clear H
   go_wp2
   go_ret
   exact⟨rfl,HO.out⟩
theorem Owns.turn5 {lo:Nat}{w0 w:World}{L:List OB}{a b c d e:OB}(h:Owns lo w0 w (a::b::c::d::e::L)):Owns lo w0 w (b::c::d::e::a::L):=
 h.pick (fun j=>if j=4 then 0 else if j<4 then j+1 else j) (fun i Y hY=>by
  rcases i with _|_|_|_|_|i
  ·simpa using hY
  ·simpa using hY
  ·simpa using hY
  ·simpa using hY
  ·simpa using hY
  ·have h1:¬ (i+1+1+1+1+1=4):=by omega
   have h2:¬ (i+1+1+1+1+1<4):=by omega
   simp only[if_neg h1,if_neg h2]
   simpa using hY) (fun i j _ _ e=>by
  split at e <;> split at e <;> (try split at e) <;> (try split at e) <;> omega)
theorem wipeTo_congr {S S':Nat}{cs:List Cel}(h:∀ i,i<cs.length->goneB S cs i=goneB S' cs i):wipeTo S cs cs.length=wipeTo S' cs cs.length:=by
 unfold wipeTo
 apply List.map_congr_left
 intro i hi
 rw[h i (List.mem_range.1 hi)]
def whiteM (c:List Int) (k:Nat):Nat:=bitsOf k (fun i=>colA c i == 0)
theorem white_wipe {h:Hp}{p:Pt}(h0:heapOk h=true) (hl:p.cols.length=h.cells.length) (h64:h.cells.length<=64):wipeTo (whiteM p.cols h.cells.length) h.cells h.cells.length=(mDrop h (deadL (ptMarks p))).cells:=by
 have hm:(ptMarks p).length=h.cells.length:=by unfold ptMarks;rw[List.length_map,hl]
 rw[<-sweep_cells h0 hm]
 refine wipeTo_congr fun i hi=>?_
 have hu:(h.cells.getD i noCel).used=usedN h.cells i:=by
  have e:=List.getElem?_eq_getElem hi
  rw[usedN_at (hid e),List.getD_eq_getElem?_getD,e];rfl
 unfold goneB whiteM
 rw[bitsOf_bit,lessB_bit _ _ _ (usedM_lt _),usedM_bit h64,setM_bit,hu]
 have:(ptMarks p).getD i false=(colA p.cols i != 0):=ptMarks_at p i
 rw[this,decide_eq_true hi]
 cases usedN h.cells i <;> simp[bne]
def zs (c:List Int) (k:Nat):List Int:=List.replicate k 0++c.drop k
theorem zs_zero (c:List Int):zs c 0=c:=by simp[zs]
theorem zs_end {c:List Int}{k:Nat}(h:c.length<=k):zs c k=List.replicate k 0:=by unfold zs;rw[List.drop_eq_nil_of_le h,List.append_nil]
theorem zs_at {c:List Int}{k:Nat}{x:Int}(h:c[k]?=some x):(zs c k)[k]?=some x:=by
 unfold zs
 rw[List.getElem?_append_right (by simp),List.length_replicate,Nat.sub_self,List.getElem?_drop,Nat.add_zero,h]
theorem zs_set {c:List Int}{k:Nat}(h:k<c.length):(zs c k).set k 0=zs c (k+1):=by
 unfold zs
 rw[List.set_append_right _ _ (by simp),List.length_replicate,Nat.sub_self,List.drop_eq_getElem_cons h,List.set_cons_zero,List.replicate_succ',List.append_assoc]
 rfl
theorem white_no {c:List Int}{k:Nat}(h:colA c k≠0):whiteM c (k+1)=whiteM c k:=by unfold whiteM;rw[bitsOf];simp[h]
theorem white_yes {c:List Int}{k:Nat}(h:colA c k=0):whiteM c (k+1)=addB (whiteM c k) k:=by unfold whiteM;rw[bitsOf];simp[h,addB]
theorem white_lt {c:List Int}{k:Nat}(h:k<=64):whiteM c k<2 ^ 64:=Nat.lt_of_lt_of_le (bitsOf_lt _ _) (Nat.pow_le_pow_right (by omega) h)
def PtTo (p p':Pt):Prop:=∃ N,ptLeft p'.cols<=N/\ptIter N p'=ptAll p
theorem PtTo.start (p:Pt):PtTo p p:=⟨p.cols.length,List.countP_le_length,rfl⟩
theorem PtTo.next {p p':Pt}(h:PtTo p p') (hn:ptNext p'<p'.cols.length):PtTo p (ptStep p'):=by
 obtain⟨N,h1,h2⟩:=h
 have h3:=ptStep_left hn
 cases N with
 | zero=>omega
 | succ N=>exact⟨N,by omega,h2⟩
theorem PtTo.ends {p p':Pt}(h:PtTo p p') (hn:¬ ptNext p'<p'.cols.length):p'=ptAll p:=by
 obtain⟨N,-,h2⟩:=h
 rw[<-h2,ptIter_done _ hn]
theorem finish_ne {p:Pt}(h:p.act=false):ptFinish p=p:=by unfold ptFinish;rw[h,if_neg Bool.false_ne_true]
set_option maxHeartbeats 3200000 in
set_option maxRecDepth 20000 in
theorem finish_own {lo:Nat}{w0 w:World}{L:List OB}{g:Nat}{C R E:Option Addr}{n m q kC kR kE:Nat}{rvs:List Value}{p:Pt}(H:Owns lo w0 w (ptL g C R E n m q kC kR kE rvs p L)) (P:PtOk p) (hq:p.cols.length=q):
  Calls Tryz.prog 188 #[.pointer (some ⟨g,0,none⟩)] w fun e w'=>∃ f rvs',e=.returned (.int .i64 f)/\Owns lo w0 w' (ptL g C R E n m q kC kR kE rvs' (ptFinish p) L):=by
 obtain⟨t1,t2,t3,-⟩:=pt_small P
 have hcl:p.store.cells.length=q:=by rw[<-hq];exact P.len.symm
 have HOk:=hid (good_iff.2 P.good)
 obtain⟨A0,kA,e0,-⟩:=H.formC 2 rfl
 simp only[Value.slice.injEq]at e0
 obtain⟨rfl,hn,rfl⟩:=e0
 obtain⟨⟨a0,a1⟩,a2,a3⟩:=box4s H 0 rfl
 by_cases ha:p.act=false
 ·have HE:=hid (finish_ne ha)
  rw[ha]at a3
  clear P
  go_enter Tryz.func188,Tryz.ntmps188
  go_wp2
  exact bodyPost_ret (v:=.int .i64 0) (by simp[results,Tryz.results188,go_sem]) rfl ⟨0,rvs,rfl,by rw[HE.out];exact H⟩
 replace ha:p.act=true:=by simpa using ha
 have HF:Hid (ptFinish p=⟨mDrop p.store (deadL (ptMarks (ptAll p))),List.replicate p.cols.length 0,false⟩):=hid (by unfold ptFinish;rw[if_pos ha])
 have HT0:=hid (PtTo.start p)
 have HC:Hid (PtOk p/\p.store=p.store/\p.act=true/\p.cols.length=q):=hid ⟨P,rfl,ha,hq⟩
 have a4:=a3
 rw[ha]at a4
 clear a3 P ha
 go_enter Tryz.func188,Tryz.ntmps188
 go_wp2_with fail
 clear a0 a1 a2 a4
 go_loopg [] (ptLeft p.cols) (fun gk wr=>∃ p':Pt,gk=ptLeft p'.cols/\Hid (PtTo p p')/\Hid (PtOk p'/\p'.store=p.store/\p'.act=true/\p'.cols.length=q)/\Owns lo w0 wr (ptL g C R E n m q kC kR kE rvs p' L))
 case atStart=>exact⟨p,rfl,HT0,hid ⟨HC.out.1,rfl,HC.out.2.2⟩,H⟩
 case round =>
  clear H HT0 HC
  obtain⟨p',rfl,HT,HA,H⟩:=hrel
  have HS:=hid (ptStep_same p')
  go_wp2_with fail
  refine (step_own H HA.out.1 HA.out.2.2.2).mono ?_
  rintro e w5 ⟨rfl,H2⟩
  clear H
  by_cases hnx:ptNext p'<p'.cols.length
  ·have hlf:=ptStep_left hnx
   have HT2:=hid (HT.out.next hnx)
   have HA2:Hid (PtOk (ptStep p')/\(ptStep p').store=p.store/\(ptStep p').act=true/\(ptStep p').cols.length=q):=hid ⟨ptStep_ok HA.out.1,HS.out.1.trans HA.out.2.1,HS.out.2.1.trans HA.out.2.2.1,HS.out.2.2.trans HA.out.2.2.2⟩
   rw[decide_eq_true hnx]
   clear HT HA HS
   generalize ptStep p'=p'' at *
   go_wp2_with fail
   go_roundg (ptLeft p''.cols)
   case measure=>omega
   case rel=>exact⟨p'',rfl,HT2,HA2,H2⟩
  ·rw[decide_eq_false hnx]
   have eA:=HT.out.ends hnx
   rw[ptStep_done hnx]at H2
   obtain⟨pst,c,pact⟩:=p'
   obtain⟨P',s1,s2,s3⟩:=HA.out
   simp only at s1 s2 s3
   subst s1 s2
   have HAl:Hid (ptAll p=⟨p.store,c,true⟩):=hid eA.symm
   have HPa:=hid P'
   clear HT HA HS hnx P' eA
   have H3:=H2.box [.int .u64 (whiteM c 0)] 140
   have H4:Owns lo w0 (w5.alloc (.cells #[.int .u64 0] 140)) (.box w5.heap.size [.int .u64 (whiteM c 0)] 140::.box g [.slice C n kC,.slice R m kR,.slice E q kE,.bool true] 109::.rowN (.slice E q kE) q (zs c 0)::.cells (.slice C n kC) rvs p.store.cells::.ints (.slice R m kR) p.store.roots::L):=by rw[zs_zero];exact H3
   obtain⟨⟨a0,a1⟩,a2,a3⟩:=box4s H2 0 rfl
   obtain⟨⟨b0,b1⟩,b2,b3⟩:=box4s H4 1 rfl
   clear H3
   go_wp2_with fail
   clear a0 a1 a2 a3 b0 b1 b2 b3 H2
   generalize hw4:w5.alloc (.cells #[.int .u64 0] 140)=w4 at *
   generalize hgw:w5.heap.size=gw at *
   clear hgw
   go_loopw [18] (fun i wr=>∃ k:Nat,i=.int .i64 k/\k<=q/\Owns lo w0 wr (.box gw [.int .u64 (whiteM c k)] 140::.box g [.slice C n kC,.slice R m kR,.slice E q kE,.bool true] 109::.rowN (.slice E q kE) q (zs c k)::.cells (.slice C n kC) rvs p.store.cells::.ints (.slice R m kR) p.store.roots::L)) (fun i _=>q - (intOf i).toNat)
   case atStart=>exact⟨0,rfl,Nat.zero_le _,H4⟩
   case round =>
    clear H4 hw4
    obtain⟨k,rfl,hk,H⟩:=hrel
    obtain⟨⟨a0,a1⟩,a2,a3⟩:=box4s H 1 rfl
    obtain⟨x0,xf⟩:=H.box1 0 rfl
    by_cases hlt:k<q
    ·obtain⟨z,hz⟩:∃ z,Hid (c[k]?=some z):=⟨_,hid (List.getElem?_eq_getElem (by omega))⟩
     obtain⟨gV,cV,e,-,-,-,-⟩:=H.rowAt 2 rfl (by omega)
     simp only[Value.slice.injEq,true_and]at e
     obtain⟨rfl,rfl⟩:=e
     obtain⟨m0,mf⟩:=H.elem 2 rfl (j:=k) (u:=.int .i64 z) (by rw[List.getElem?_map,zs_at hz.out];rfl)
     have hzc:=colA_at hz.out
     have HZ:=hid (zs_set (c:=c) (k:=k) (by omega))
     have P64:=hid (white_lt (c:=c) (k:=k) (by omega))
     by_cases z0:z=0
     ·have k1:(z == 0)=true:=by simp[z0]
      have HW:=hid (white_yes (hzc.trans z0))
      have hz2:=hz.out
      clear hzc z0 a0 a1 a3 xf x0 mf hz
      have hz3:=hid hz2
      clear hz2
      go_wp2_with fail
      refine (add_own H 0 rfl (k:Int) P64.out (by omega) (by omega)).mono ?_
      rintro e w6 ⟨⟨u,rfl⟩,H6⟩
      simp only[List.set_cons_zero]at H6
      rw[<-HW.out]at H6
      clear a2 m0 H
      obtain⟨-,a2,-⟩:=box4s H6 1 rfl
      obtain⟨m0,mf⟩:=H6.elem 2 rfl (j:=k) (u:=.int .i64 z) (by rw[List.getElem?_map,zs_at hz3.out];rfl)
      have H7:=H6.putN 2 rfl k 0
      simp only[lsz]at H7
      rw[HZ.out]at H7
      clear H6
      go_wp2
      go_roundw
      case rel=>exact⟨k+1,by go_num,by omega,H7⟩
      case measure=>simp[intOf];omega
     ·have k1:(z == 0)=false:=by simp[z0]
      have HW:=hid (white_no (c:=c) (k:=k) (by rw[hzc];exact z0))
      have H7:=H.putN 2 rfl k 0
      simp only[lsz]at H7
      rw[HZ.out,<-HW.out]at H7
      clear hz hzc z0 H
      go_wp2
      go_roundw
      case rel=>exact⟨k+1,by go_num,by omega,H7⟩
      case measure=>simp[intOf];omega
    ·rw[show k=q by omega]at H
     rw[show k=q by omega]at x0
     rw[zs_end (c:=c) (k:=q) (by omega)]at H
     have P64:=hid (white_lt (c:=c) (k:=q) (by omega))
     have HWp:Hid (wipeTo (whiteM c q) p.store.cells p.store.cells.length=(ptFinish p).store.cells/\p.store.roots=(ptFinish p).store.roots/\List.replicate q 0=(ptFinish p).cols/\false=(ptFinish p).act):=hid (by
      have e:=white_wipe (h:=p.store) (p:=⟨p.store,c,true⟩) HOk.out (by rw[hcl];exact s3) (by omega)
      rw[HF.out,HAl.out,hq]
      rw[hcl]at e⊢
      exact⟨e,rfl,rfl,rfl⟩)
     obtain⟨y0,y1,y2,y3,yf0,yf1,yf2,yf3⟩:=box4 H 1 rfl
     have H2:=H.putBox 1 rfl 3 (.bool false)
     simp only[lsz]at H2
     obtain⟨v0,-⟩:=H2.box1 0 rfl
     generalize whiteM c q=S at *
     have H3:=H2.turn5
     clear a0 a1 a2 a3 H H2 xf yf0 yf1 yf2 y0 y1 y2
     go_upto_region 13 with fail
     have HX:=H3.drew
     clear H3
     refine wp_region_tree (fun w'=>w'.cell? ⟨gw,0,none⟩=some (.int .u64 S)) 6 [] (.take 0 (.take 1 (.take 2 (.take 3 (.alt 4 (.take 5 (.done)) (.stop)))))) (by kernel_rfl) (by kernel_rfl) (by kernel_rfl) (v0) ?_
     simp only[fillT,lgz,Nat.reduceBEq]
     repeat first|(with_reducible apply po_take;(·(go_simp;done));(·(intro w' hS';(try dsimp only at hS');go_simp;try with_reducible rfl));simp only[lpa])|(with_reducible apply po_skip;(·(go_simp;done));simp only[lpa])
     with_reducible refine po_last ?_ (fun K hK=>?_)
     ·(go_simp;done)
     go_simp
     refine (freeCellsP_own HX P64.out (by omega)).mono ?_
     rintro e w7 ⟨rfl,rvs',H8⟩
     rw[HWp.out.1,HWp.out.2.1,HWp.out.2.2.1]at H8
     clear v0
     obtain⟨v0,-⟩:=H8.box1 4 rfl
     refine hK.out _ _ (.inr (v0)) ?_
     clear hK K
     repeat first|(with_reducible apply po_take;(·(go_simp;done));(·(intro w' hS';(try dsimp only at hS');go_simp;try with_reducible rfl));simp only[lpa])|(with_reducible apply po_skip;(·(go_simp;done));simp only[lpa])
     refine po_done ?_
     have HO:Hid (Owns lo w0 w7 (ptL g C R E n m q kC kR kE rvs' (ptFinish p) L)):=hid (by
      have H9:=H8.erase 4
      simp only[List.eraseIdx_cons_succ,List.eraseIdx_cons_zero]at H9
      unfold ptL;rw[<-HWp.out.2.2.2];exact H9)
     clear H8 HX
     go_wp2
     exact bodyPost_ret (v:=.int .i64 (cntTo S p.store.cells q:Nat)) (by simp[results,Tryz.results188,go_sem]) rfl ⟨_,rvs',rfl,HO.out⟩
def barV (op:Int):Value:=if op=1\/op=2\/op=4 then .iface 192 (.agg #[]) else if op=3 then .iface 193 (.agg #[]) else .nilIface
set_option maxHeartbeats 1600000 in
theorem barrierOf_any (op:Int) (w:World):Calls Tryz.prog 195 #[.int .i64 op] w fun e w'=>e=.returned (barV op)/\w=w':=by
 by_cases h1:op=1
 ·subst h1
  go_enter Tryz.func195,Tryz.ntmps195
  go_wp2
  go_ret
  exact⟨rfl,rfl⟩
 by_cases h2:op=2
 ·subst h2
  go_enter Tryz.func195,Tryz.ntmps195
  go_wp2
  go_ret
  exact⟨rfl,rfl⟩
 by_cases h4:op=4
 ·subst h4
  go_enter Tryz.func195,Tryz.ntmps195
  go_wp2
  go_ret
  exact⟨rfl,rfl⟩
 by_cases h3:op=3
 ·subst h3
  go_enter Tryz.func195,Tryz.ntmps195
  go_wp2
  go_ret
  exact⟨rfl,rfl⟩
 have k1:(op == 1)=false:=by simp[h1]
 have k2:(op == 2)=false:=by simp[h2]
 have k4:(op == 4)=false:=by simp[h4]
 have k3:(op == 3)=false:=by simp[h3]
 have HV:Hid (barV op=.nilIface):=hid (by unfold barV;rw[if_neg (by simp[h1,h2,h4]),if_neg h3])
 clear h1 h2 h3 h4
 go_enter Tryz.func195,Tryz.ntmps195
 go_wp2
 go_ret
 exact⟨HV.out.symm ▸ rfl,rfl⟩
set_option maxHeartbeats 1600000 in
set_option maxRecDepth 20000 in
theorem rootReached_any (w:World) {B B':Nat}{v1 v2:Value}{h1 h2:Hp}(hh1:RdH w B v1 h1) (hh2:RdH w B' v2 h2) (o:Cmd) (h4:h2.roots.length=4) (c0:0<=o.a) (c1:o.a<=3):
  Calls Tryz.prog 198 #[.agg #[],v1,v2,cmdV o] w fun e w'=>e=.returned (.int .i64 (rootI h2 o.a))/\Below w.heap.size w w':=by
 obtain⟨D1,m1,d1,D1',m1',d1',rfl,-,-⟩:=hh1.top
 obtain⟨D,m,d,D',m',d',rfl,hC,hR⟩:=hh2.top
 have l7:=RdI.le1 hR;have l8:=RdI.le2 hR
 have hx:=rootI_at h4 c0 c1
 obtain⟨op,oa,ob,oc⟩:=o
 simp only at c0 c1 hx
 obtain⟨oa,rfl⟩:=Int.eq_ofNat_of_zero_le c0
 simp only[Int.toNat_natCast]at hx
 have hlt:oa<m':=by omega
 obtain⟨b,ob',y,rfl,hbb,hy,p1⟩:=RdI.at_ hR hlt
 have hyx:y=rootI h2 (oa:Int):=by have:=hy.out.symm.trans hx.out;simpa using this
 subst hyx
 have i1:(oa:Int)<(m':Int):=by omega
 generalize rootI h2 (oa:Int)=y at *
 have H0:=(((Owns.nil w).box [] 192).box [.slice D1 m1 d1,.slice D1' m1' d1'] 29)
 have H:=(H0.box [.slice D m d,.slice (some ⟨b,ob',none⟩) m' d'] 29).box [.int .i64 op,.int .i64 oa,.int .i64 ob,.int .i64 oc] 79
 simp only[lnm]at H
 have HB:=H.below
 have g1:=H.ro p1 hbb
 clear hx hy H0 p1 h4
 go_enter Tryz.func198,Tryz.ntmps198
 go_wp2
 go_ret
 exact⟨rfl,HB⟩
set_option maxHeartbeats 1600000 in
set_option maxRecDepth 20000 in
theorem refReached_any (w:World) {B B':Nat}{v1 v2:Value}{h1 h2:Hp}(hh1:RdH w B v1 h1) (hh2:RdH w B' v2 h2) (o:Cmd) (h4:h1.roots.length=4) (c0:0<=o.b) (c1:o.b<=3):
  Calls Tryz.prog 199 #[.agg #[],v1,v2,cmdV o] w fun e w'=>e=.returned (.int .i64 (rootI h1 o.b))/\Below w.heap.size w w':=by
 obtain⟨D1,m1,d1,D1',m1',d1',rfl,-,-⟩:=hh2.top
 obtain⟨D,m,d,D',m',d',rfl,hC,hR⟩:=hh1.top
 have l7:=RdI.le1 hR;have l8:=RdI.le2 hR
 have hx:=rootI_at h4 c0 c1
 obtain⟨op,oa,ob,oc⟩:=o
 simp only at c0 c1 hx
 obtain⟨ob,rfl⟩:=Int.eq_ofNat_of_zero_le c0
 simp only[Int.toNat_natCast]at hx
 have hlt:ob<m':=by omega
 obtain⟨b,ob',y,rfl,hbb,hy,p1⟩:=RdI.at_ hR hlt
 have hyx:y=rootI h1 (ob:Int):=by have:=hy.out.symm.trans hx.out;simpa using this
 subst hyx
 have i1:(ob:Int)<(m':Int):=by omega
 generalize rootI h1 (ob:Int)=y at *
 have H0:=(((Owns.nil w).box [] 193).box [.slice D m d,.slice (some ⟨b,ob',none⟩) m' d'] 29)
 have H:=(H0.box [.slice D1 m1 d1,.slice D1' m1' d1'] 29).box [.int .i64 op,.int .i64 oa,.int .i64 ob,.int .i64 oc] 79
 simp only[lnm]at H
 have HB:=H.below
 have g1:=H.ro p1 hbb
 clear hx hy H0 p1 h4
 go_enter Tryz.func199,Tryz.ntmps199
 go_wp2
 go_ret
 exact⟨rfl,HB⟩
theorem ptCmd_can (p:Pt) (o:Cmd):ptCmd p o=if canB p.store o then ⟨mDo p.store o (mFree p.store),if p.act then greyI (ptGrow (mDo p.store o (mFree p.store)).cells.length p.cols) (ptTo p.store o (mFree p.store)) else ptGrow (mDo p.store o (mFree p.store)).cells.length p.cols,p.act⟩ else p:=rfl
theorem rowN_ints {v:Value}{n:Nat}{xs:List Int}(hn:xs.length=n):OB.rowN v n xs=.ints v xs:=by subst hn;rfl
theorem bar_ne (op:Int) (w:World):(binOp .neq 189 (barV op) .nilIface).run Tryz.prog w=.ok (.bool (decide (op=1\/op=2\/op=4\/op=3))) w:=by
 unfold barV
 split
 ·rename_i h
  rw[decide_eq_true (by omega)];kernel_rfl
 ·split
  ·rename_i h
   rw[decide_eq_true (by omega)];kernel_rfl
  ·rw[decide_eq_false (by omega)];kernel_rfl
theorem bar_guard (op:Int) (w:World):(eqGuard .neq 189 (.tmp 49) (.const .nilIface) (barV op) .nilIface).run Tryz.prog w=.ok () w:=by
 unfold barV
 split
 ·kernel_rfl
 ·split
  ·kernel_rfl
  ·kernel_rfl
theorem ptTo_lt {p:Pt}{o:Cmd}(P:PtOk p) (hc:cmdOk o=true) (hl:p.store.cells.length<40) (hb:canB p.store o=true):0<=ptTo p.store o (mFree p.store)->(ptTo p.store o (mFree p.store)).toNat<(ptGrow (mDo p.store o (mFree p.store)).cells.length p.cols).length:=by
 intro h0
 have hf:=mFree_le p.store
 have hL:=mDo_len1 (o:=o) hf
 have hG:(ptGrow (mDo p.store o (mFree p.store)).cells.length p.cols).length=(mDo p.store o (mFree p.store)).cells.length:=ptGrow_len (by rw[P.len];exact hL.1) (by rw[P.len];exact hL.2)
 rw[hG]
 have hs:ptCmd p o=_:=ptCmd_can p o
 rw[if_pos hb]at hs
 have hg:=(ptCmd_ok P hc hl).good
 rw[hs]at hg
 unfold ptTo at h0⊢
 split
 ·rename_i h1
  rw[if_pos h1]at h0
  have:=good_rootLt hg o.a
  simp only at this
  omega
 ·rename_i h1
  rw[if_neg h1]at h0
  split
  ·rename_i h3
   rw[if_pos h3]at h0
   have:=good_rootLt P.good o.b
   omega
  ·rename_i h3
   rw[if_neg h3]at h0
   omega
set_option maxHeartbeats 6400000 in
set_option maxRecDepth 20000 in
theorem implPaintCommand_any (w:World) (B:Nat) (v:Value) (p:Pt) (hh:RdPt w B v p) (o:Cmd) (P:PtOk p) (hc:cmdOk o=true) (hl40:p.store.cells.length<40):
  Calls Tryz.prog 191 #[v,cmdV o] w fun e w'=>∃ b,MadePtB w (ptCmd p o) b e w':=by
 have hh':=hh.top
 obtain⟨D,m,d,D',m',d',E,q,f,rfl,hC,hR,hE⟩:=hh.top
 have HP:=hid P
 have HCo:=hid hc
 have hst:RdH w w.heap.size (.agg #[.slice D m d,.slice D' m' d']) p.store:=⟨_,_,_,_,_,_,rfl,hC,hR⟩
 have s4:p.store.cells.length<=1048576:=by omega
 have H:=(((Owns.nil w).box [.slice D m d,.slice D' m' d',.slice E q f,.bool p.act] 109).box [.int .i64 o.op,.int .i64 o.a,.int .i64 o.b,.int .i64 o.c] 79).box [.slice none 0 0,.slice none 0 0,.slice none 0 0,.bool false] 109
 simp only[lnm]at H
 obtain⟨a0,a1,a2,a3,-,-,-,-⟩:=box4 H 2 rfl
 clear P hc
 go_enter Tryz.func191,Tryz.ntmps191
 go_wp2_with fail
 refine (implPaintValid_yes _ _ _ p (hh'.below H.below) HP.out).mono ?_
 rintro e w1 ⟨rfl,hb⟩
 replace H:=H.call hb
 clear hb a0 a1 a2 a3
 obtain⟨b0,b1,b2,b3,-,-,-,-⟩:=box4 H 1 rfl
 go_wp2_with fail
 refine (implCommandValid_any o _).mono ?_
 rintro e w2 ⟨rfl,hb⟩
 rw[HCo.out]
 replace H:=H.call hb
 clear hb b0 b1 b2 b3
 obtain⟨a0,a1,a2,a3,-,-,-,-⟩:=box4 H 2 rfl
 go_wp2_with fail
 refine (copyPaint_any _ _ _ p (hh'.below H.below) HP.out).mono ?_
 rintro e w3 ⟨cv,rvs,rv,ov,rfl,K⟩
 replace K:=H.merge K
 simp only[lca]at K
 obtain⟨C,kC,rfl,-⟩:=K.formC 0 rfl
 obtain⟨R,kR,rfl,-⟩:=K.formI 1 rfl
 obtain⟨V,kV,rfl,-⟩:=K.formI 2 rfl
 clear H a0 a1 a2 a3
 replace K:=K.box [.slice C p.store.cells.length kC,.slice R p.store.roots.length kR,.slice V p.cols.length kV,.bool p.act] 109
 obtain⟨a0,a1,a2,a3,-,-,-,-⟩:=box4 K 6 rfl
 obtain⟨b0,b1,b2,b3,-,-,-,-⟩:=box4 K 5 rfl
 go_wp2_with fail
 refine (canStep_any _ _ _ p.store (hst.below K.below) o HP.out.good HCo.out).mono ?_
 rintro e w4 ⟨rfl,hb⟩
 replace K:=K.call hb
 clear hb a0 a1 a2 a3 b0 b1 b2 b3
 have HS:=hid (ptCmd_can p o)
 cases hb:canB p.store o
 ·rw[hb]at HS
  have HT:Hid (ptCmd p o=p):=HS
  have H:=K
  clear K
  obtain⟨x0,x1,x2,x3,-,-,-,-⟩:=box4 H 0 rfl
  obtain⟨y0,y1,y2,y3,y4,y5,y6,y7⟩:=box4 H 4 rfl
  have HY:=(((H.putBox 4 rfl 0 (.slice C p.store.cells.length kC)).putBox 4 rfl 1 (.slice R p.store.roots.length kR)).putBox 4 rfl 2 (.slice V p.cols.length kV)).putBox 4 rfl 3 (.bool p.act)
  simp only[lsz]at HY
  obtain⟨z0,z1,z2,z3,-,-,-,-⟩:=box4 HY 4 rfl
  have HQ:Hid (∃ b,MadePtB w (ptCmd p o) b (.returned (.tuple #[.agg #[.slice C p.store.cells.length kC,.slice R p.store.roots.length kR,.slice V p.cols.length kV,.bool p.act],.bool false])) _):=hid (by rw[HT.out];exact⟨_,_,rvs,_,_,rfl,HY.order [1,2,3] (by decide) rfl⟩)
  clear hb HS HY H
  go_wp2
  exact bodyPost_ret (by simp[results,Tryz.results191,go_sem,z0,z1,z2,z3]) rfl HQ.out
 ·rw[hb]at HS
  have HTl:=hid (ptTo_lt HP.out HCo.out hl40 hb)
  have HT:Hid (ptCmd p o=⟨mDo p.store o (mFree p.store),if p.act then greyI (ptGrow (mDo p.store o (mFree p.store)).cells.length p.cols) (ptTo p.store o (mFree p.store)) else ptGrow (mDo p.store o (mFree p.store)).cells.length p.cols,p.act⟩):=HS
  have HPo:=hid (can_poss hb).1
  have HLn:=hid (mDo_len1 (o:=o) (mFree_le p.store))
  have HcA:=hid (cmd_a HCo.out)
  have HR4:=hid HP.out.good.roots
  have HTo:Hid (ptTo p.store o (mFree p.store)=if o.op=1\/o.op=2\/o.op=4 then rootI (mDo p.store o (mFree p.store)) o.a else if o.op=3 then rootI p.store o.b else -1):=hid rfl
  have HG4:Hid ((mDo p.store o (mFree p.store)).roots.length=4):=hid (by
   have h1:=(ptCmd_ok HP.out HCo.out hl40).good.roots
   rw[HT.out]at h1;exact h1)
  have hcl1:p.cols.length<=p.store.cells.length:=by rw[HP.out.len];exact Nat.le_refl _
  have hcl2:p.store.cells.length<=p.cols.length:=by rw[HP.out.len];exact Nat.le_refl _
  obtain⟨y,hy⟩:∃ y,y=ptTo p.store o (mFree p.store):=⟨_,rfl⟩
  rw[<-hy]at HTl HT HTo
  clear hb HS hy
  obtain⟨b0,b1,b2,b3,-,-,-,-⟩:=box4 K 5 rfl
  obtain⟨x0,x1,x2,x3,-,-,-,-⟩:=box4 K 6 rfl
  clear b0 b1 b2 b3 x0 x1 x2 x3
  go_wp2_with fail
  have HX:=K.drew
  clear K
  obtain⟨x0,x1,x2,x3,-,-,-,-⟩:=box4 HX 6 rfl
  obtain⟨b0,b1,b2,b3,-,-,-,-⟩:=box4 HX 5 rfl
  refine wp_region_tree (fun w'=>(w'.cell? ⟨w.heap.size,0,none⟩=some (.slice D m d)/\w'.cell? ⟨w.heap.size,1,none⟩=some (.slice D' m' d'))/\(w'.cell? ⟨w.heap.size+1,0,none⟩=some (.int .i64 o.op)/\w'.cell? ⟨w.heap.size+1,1,none⟩=some (.int .i64 o.a))/\w'.cell? ⟨w.heap.size+1,2,none⟩=some (.int .i64 o.b)/\w'.cell? ⟨w.heap.size+1,3,none⟩=some (.int .i64 o.c)) 8 [] (.take 0 (.take 1 (.take 2 (.take 3 (.take 4 (.alt 5 (.alt 6 (.take 7 (.alt 8 (.done) (.stop))) (.stop)) (.stop))))))) (by kernel_rfl) (by kernel_rfl) (by kernel_rfl) (⟨⟨x0,x1⟩,⟨b0,b1⟩,b2,b3⟩) ?_
  simp only[fillT,lgz,Nat.reduceBEq]
  repeat first|(with_reducible apply po_take;(·(go_simp;done));(·(intro w' hS';(try dsimp only at hS');go_simp;try with_reducible rfl));simp only[lpa])|(with_reducible apply po_skip;(·(go_simp;done));simp only[lpa])
  with_reducible refine po_last ?_ (fun K hK=>?_)
  ·(go_simp;done)
  go_simp
  refine (freePlace_any _ _ _ p.store (hst.below HX.below) s4).mono ?_
  rintro e w6 ⟨rfl,hb⟩
  replace HX:=HX.call hb
  clear hb x0 x1 x2 x3 b0 b1 b2 b3
  obtain⟨x0,x1,x2,x3,-,-,-,-⟩:=box4 HX 6 rfl
  obtain⟨b0,b1,b2,b3,-,-,-,-⟩:=box4 HX 5 rfl
  refine hK.out _ _ (.inr (⟨⟨x0,x1⟩,⟨b0,b1⟩,b2,b3⟩)) ?_
  clear hK K
  with_reducible refine po_last ?_ (fun K hK=>?_)
  ·(go_simp;done)
  go_simp
  refine (execute_any _ _ _ p.store (hst.below HX.below) o HP.out.good HCo.out HPo.out (mFree p.store) (mFree_le p.store)).mono ?_
  rintro e w7 ⟨cv,rvs',rv,rfl,HY⟩
  replace HY:=HX.merge HY
  simp only[lca]at HY
  obtain⟨T,hT⟩:∃ T,T=mDo p.store o (mFree p.store):=⟨_,rfl⟩
  rw[<-hT]at HY HT HLn HTl HTo HG4
  obtain⟨C',kC',rfl,-⟩:=HY.formC 0 rfl
  obtain⟨R',kR',rfl,-⟩:=HY.formI 1 rfl
  clear hT HX x0 x1 x2 x3 b0 b1 b2 b3
  obtain⟨x0,x1,x2,x3,-,-,-,-⟩:=box4 HY 8 rfl
  obtain⟨b0,b1,b2,b3,-,-,-,-⟩:=box4 HY 7 rfl
  refine hK.out _ _ (.inr (⟨⟨x0,x1⟩,⟨b0,b1⟩,b2,b3⟩)) ?_
  clear hK K
  repeat first|(with_reducible apply po_take;(·(go_simp;done));(·(intro w' hS';(try dsimp only at hS');go_simp;try with_reducible rfl));simp only[lpa])|(with_reducible apply po_skip;(·(go_simp;done));simp only[lpa])
  with_reducible refine po_last ?_ (fun K hK=>?_)
  ·(go_simp;done)
  obtain⟨y0,y1,y2,y3,y4,y5,y6,y7⟩:=box4 HY 2 rfl
  go_simp
  have HZ:=((HY.putBox 2 rfl 0 (.slice C' T.cells.length kC')).putBox 2 rfl 1 (.slice R' T.roots.length kR')).places [2,0,1,5,6,7,8] (by decide) (by simp)
  simp only[lfm,lsz]at HZ
  refine hK.out _ _ (.inl rfl) ?_
  clear hK K
  refine po_done ?_
  clear HY x0 x1 x2 x3 b0 b1 b2 b3 y0 y1 y2 y3 y4 y5 y6 y7
  obtain⟨hl1,hl2⟩:=HLn.out
  generalize World.setCell _ _ _=wz at HZ⊢
  generalize w3.heap.size=gx at *
  obtain⟨y0,y1,y2,y3,-,-,-,-⟩:=box4 HZ 0 rfl
  go_upto_if 40 with fail
  clear y0 y1 y2 y3
  go_cut [] (fun wx=>∃ (A3:Option Addr) (k3:Nat),Owns w.heap.size w wx [.box gx [.slice C' T.cells.length kC',.slice R' T.roots.length kR',.slice A3 (ptGrow T.cells.length p.cols).length k3,.bool p.act] 109,.cells (.slice C' T.cells.length kC') rvs' T.cells,.ints (.slice R' T.roots.length kR') T.roots,.ints (.slice A3 (ptGrow T.cells.length p.cols).length k3) (ptGrow T.cells.length p.cols),.box (w.heap.size+1+1) [.slice none 0 0,.slice none 0 0,.slice none 0 0,.bool false] 109,.box (w.heap.size+1) [.int .i64 o.op,.int .i64 o.a,.int .i64 o.b,.int .i64 o.c] 79,.box w.heap.size [.slice D m d,.slice D' m' d',.slice E q f,.bool p.act] 109])
  case first =>
   by_cases hg:p.cols.length<T.cells.length
   ·have HG:Hid (ptGrow T.cells.length p.cols=p.cols++[0]):=hid (by unfold ptGrow;rw[if_pos hg])
    have i1:(p.cols.length:Int)<(T.cells.length:Int):=by omega
    have k1:decide ((p.cols.length:Int)<(T.cells.length:Int))=true:=decide_eq_true i1
    clear hg HT HLn hl1 hl2
    have H1:=HZ.litI [0] one_le_maxLen
    simp only[lml]at H1
    obtain⟨y0,y1,y2,y3,-,-,-,-⟩:=box4 HZ 0 rfl
    obtain⟨x0,x1,x2,x3,x4,x5,x6,x7⟩:=box4 H1 1 rfl
    clear HZ
    go_wp2_with (at_builtin;go_loud (refine wpList_pushO rfl (.tmp 42) (.tmp 43) rfl H1 4 rfl rfl rfl (H1.owI 0 rfl).rdI (by omega) ?_;intro A3 k3 w8 H2;simp only[lsz]at H2;generalize hM:p.cols++[0]=M at *;clear x0 x1 x2 x3 x4 x5 x6 x7 y0 y1 y2 y3;obtain⟨x0,x1,x2,x3,x4,x5,x6,x7⟩:=box4 H2 1 rfl))
    have H3:=(H2.putBox 1 rfl 2 (.slice A3 M.length k3)).drop 1
    simp only[lsz,List.drop_succ_cons,List.drop_zero]at H3
    clear H1 H2 x0 x1 x2 x3 x4 x5 x6 x7
    go_meet
    exact⟨A3,k3,by rw[HG.out];exact H3⟩
   ·have HG:Hid (ptGrow T.cells.length p.cols=p.cols):=hid (by unfold ptGrow;rw[if_neg hg])
    have i1:¬ (p.cols.length:Int)<(T.cells.length:Int):=by omega
    have k1:decide ((p.cols.length:Int)<(T.cells.length:Int))=false:=decide_eq_false i1
    obtain⟨y0,y1,y2,y3,-,-,-,-⟩:=box4 HZ 0 rfl
    clear hg HT HLn hl1 hl2
    go_wp2_with fail
    go_meet
    exact⟨V,kV,by rw[HG.out];exact HZ⟩
  case rest =>
   obtain⟨A3,k3,H⟩:=hcut
   obtain⟨M,hM⟩:∃ M,M=ptGrow T.cells.length p.cols:=⟨_,rfl⟩
   rw[<-hM]at H HT HTl
   have hMl:M.length<=1048576:=by rw[hM];unfold ptGrow;split;(rw[List.length_append];simp only[List.length_cons,List.length_nil];omega);omega
   clear hM HZ HLn hl1 hl2
   have HcB:=hid (fun h3:o.op=3=>cmd_b HCo.out (.inr (.inl h3)))
   have HMl:Hid (M.length<=1048576):=hid hMl
   have qn:=bar_ne o.op
   have qg:=bar_guard o.op
   obtain⟨bv,hbv⟩:∃ bv,bv=barV o.op:=⟨_,rfl⟩
   rw[<-hbv]at qn qg
   have HBv:=hid hbv
   obtain⟨hs,hhs⟩:∃ hs,hs=decide (o.op=1\/o.op=2\/o.op=4\/o.op=3):=⟨_,rfl⟩
   rw[<-hhs]at qn
   have HHs:=hid hhs
   obtain⟨x0,x1,x2,x3,-,-,-,-⟩:=box4 H 5 rfl
   obtain⟨g0,g1,g2,g3,-,-,-,-⟩:=box4 H 6 rfl
   clear hbv hhs hMl
   go_wp2_with fail
   refine (barrierOf_any _ _).mono ?_
   rintro e w9 ⟨rfl,hw⟩
   obtain rfl:=hw
   rw[<-HBv.out]
   clear x0 x1 x2 x3
   cases hs
   ·have HZd:Hid (ptCmd p o=⟨T,M,p.act⟩):=hid (by
     have hn:=of_decide_eq_false HHs.out.symm
     have e:y=-1:=by rw[HTo.out,if_neg (fun q=>hn (by omega)),if_neg (fun q=>hn (by omega))]
     rw[HT.out,e,greyI_neg (by omega)]
     cases p.act <;> rfl)
    obtain⟨x0,x1,x2,x3,-,-,-,-⟩:=box4 H 0 rfl
    obtain⟨y0,y1,y2,y3,y4,y5,y6,y7⟩:=box4 H 4 rfl
    have HY:=(((H.putBox 4 rfl 0 (.slice C' T.cells.length kC')).putBox 4 rfl 1 (.slice R' T.roots.length kR')).putBox 4 rfl 2 (.slice A3 M.length k3)).putBox 4 rfl 3 (.bool p.act)
    simp only[lsz]at HY
    obtain⟨z0,z1,z2,z3,-,-,-,-⟩:=box4 HY 4 rfl
    have HQ:Hid (∃ b,MadePtB w (ptCmd p o) b (.returned (.tuple #[.agg #[.slice C' T.cells.length kC',.slice R' T.roots.length kR',.slice A3 M.length k3,.bool p.act],.bool true])) _):=hid (by rw[HZd.out];exact⟨_,_,rvs',_,_,rfl,HY.order [1,2,3] (by decide) rfl⟩)
    clear HY H
    go_wp2
    exact bodyPost_ret (by simp[results,Tryz.results191,go_sem,z0,z1,z2,z3]) rfl HQ.out
   cases hact:p.act
   ·have HZd:Hid (ptCmd p o=⟨T,M,p.act⟩):=hid (by rw[HT.out,hact];rfl)
    rw[hact]at g3
    clear hact
    obtain⟨x0,x1,x2,x3,-,-,-,-⟩:=box4 H 0 rfl
    obtain⟨y0,y1,y2,y3,y4,y5,y6,y7⟩:=box4 H 4 rfl
    have HY:=(((H.putBox 4 rfl 0 (.slice C' T.cells.length kC')).putBox 4 rfl 1 (.slice R' T.roots.length kR')).putBox 4 rfl 2 (.slice A3 M.length k3)).putBox 4 rfl 3 (.bool p.act)
    simp only[lsz]at HY
    obtain⟨z0,z1,z2,z3,-,-,-,-⟩:=box4 HY 4 rfl
    have HQ:Hid (∃ b,MadePtB w (ptCmd p o) b (.returned (.tuple #[.agg #[.slice C' T.cells.length kC',.slice R' T.roots.length kR',.slice A3 M.length k3,.bool p.act],.bool true])) _):=hid (by rw[HZd.out];exact⟨_,_,rvs',_,_,rfl,HY.order [1,2,3] (by decide) rfl⟩)
    clear HY H
    go_wp2
    exact bodyPost_ret (by simp[results,Tryz.results191,go_sem,z0,z1,z2,z3]) rfl HQ.out
   have HZd:Hid (ptCmd p o=⟨T,greyI M y,p.act⟩):=hid (by rw[HT.out,hact];rfl)
   rw[hact]at g3
   clear hact
   by_cases h3:o.op=3
   ·have hbv:bv=.iface 193 (.agg #[]):=by rw[HBv.out,h3];rfl
    have HyV:Hid (y=rootI p.store o.b):=hid (by rw[HTo.out,if_neg (by omega),if_pos h3])
    have HcB:=hid (HcB.out h3)
    subst hbv
    clear h3 HBv
    obtain⟨x0,x1,x2,x3,-,-,-,-⟩:=box4 H 0 rfl
    obtain⟨b0,b1,b2,b3,-,-,-,-⟩:=box4 H 5 rfl
    go_wp2_with fail
    refine (refReached_any _ (hst.below H.below) (H.rdH 1 2 rfl rfl) o HR4.out HcB.out.1 HcB.out.2).mono ?_
    rintro e w6 ⟨rfl,hb⟩
    rw[<-HyV.out]
    replace H:=H.call hb
    clear hb x0 x1 x2 x3 b0 b1 b2 b3 g0 g1 g2 g3
    have H1:=H.litI [y] one_le_maxLen
    simp only[lml]at H1
    replace H1:=H1.places [1,4,0,2,3,5,6,7] (by decide) (by simp)
    simp only[lfm]at H1
    have HGr:=grey_own (b:=.bool p.act) (cols:=M) H1 rfl (rs:=[y]) (fun w' xs H'=>(H'.owI 2 rfl).rdI) (fun r hr h0=>by rw[List.mem_singleton]at hr;subst hr;exact HTl.out h0) HMl.out
    clear H H1
    go_wp2_with fail
    refine HGr.mono ?_
    rintro e w8 ⟨⟨u,rfl⟩,H2⟩
    have H:=H2.places [0,3,4,1,5,6,7] (by decide) (by simp)
    simp only[lfm]at H
    rw[show greys M [y]=greyI M y from rfl,rowN_ints (show (greyI M y).length=M.length from greyI_len M y)]at H
    clear H2 HGr
    obtain⟨x0,x1,x2,x3,-,-,-,-⟩:=box4 H 0 rfl
    obtain⟨y0,y1,y2,y3,y4,y5,y6,y7⟩:=box4 H 4 rfl
    have HY:=(((H.putBox 4 rfl 0 (.slice C' T.cells.length kC')).putBox 4 rfl 1 (.slice R' T.roots.length kR')).putBox 4 rfl 2 (.slice A3 M.length k3)).putBox 4 rfl 3 (.bool p.act)
    simp only[lsz]at HY
    obtain⟨z0,z1,z2,z3,-,-,-,-⟩:=box4 HY 4 rfl
    have HQ:Hid (∃ b,MadePtB w (ptCmd p o) b (.returned (.tuple #[.agg #[.slice C' T.cells.length kC',.slice R' T.roots.length kR',.slice A3 M.length k3,.bool p.act],.bool true])) _):=hid (by rw[HZd.out];exact⟨_,_,rvs',_,_,rfl,HY.order [1,2,3] (by decide) rfl⟩)
    clear HY H
    go_wp2
    exact bodyPost_ret (by simp[results,Tryz.results191,go_sem,z0,z1,z2,z3]) rfl HQ.out
   ·have hbv:bv=.iface 192 (.agg #[]):=by
     have hd:=of_decide_eq_true HHs.out.symm
     rw[HBv.out];unfold barV;rw[if_pos (by omega)]
    have HyV:Hid (y=rootI T o.a):=hid (by
     have hd:=of_decide_eq_true HHs.out.symm
     rw[HTo.out,if_pos (by omega)])
    subst hbv
    clear h3 HBv
    obtain⟨x0,x1,x2,x3,-,-,-,-⟩:=box4 H 0 rfl
    obtain⟨b0,b1,b2,b3,-,-,-,-⟩:=box4 H 5 rfl
    go_wp2_with fail
    refine (rootReached_any _ (hst.below H.below) (H.rdH 1 2 rfl rfl) o HG4.out HcA.out.1 HcA.out.2).mono ?_
    rintro e w6 ⟨rfl,hb⟩
    rw[<-HyV.out]
    replace H:=H.call hb
    clear hb x0 x1 x2 x3 b0 b1 b2 b3 g0 g1 g2 g3
    have H1:=H.litI [y] one_le_maxLen
    simp only[lml]at H1
    replace H1:=H1.places [1,4,0,2,3,5,6,7] (by decide) (by simp)
    simp only[lfm]at H1
    have HGr:=grey_own (b:=.bool p.act) (cols:=M) H1 rfl (rs:=[y]) (fun w' xs H'=>(H'.owI 2 rfl).rdI) (fun r hr h0=>by rw[List.mem_singleton]at hr;subst hr;exact HTl.out h0) HMl.out
    clear H H1
    go_wp2_with fail
    refine HGr.mono ?_
    rintro e w8 ⟨⟨u,rfl⟩,H2⟩
    have H:=H2.places [0,3,4,1,5,6,7] (by decide) (by simp)
    simp only[lfm]at H
    rw[show greys M [y]=greyI M y from rfl,rowN_ints (show (greyI M y).length=M.length from greyI_len M y)]at H
    clear H2 HGr
    obtain⟨x0,x1,x2,x3,-,-,-,-⟩:=box4 H 0 rfl
    obtain⟨y0,y1,y2,y3,y4,y5,y6,y7⟩:=box4 H 4 rfl
    have HY:=(((H.putBox 4 rfl 0 (.slice C' T.cells.length kC')).putBox 4 rfl 1 (.slice R' T.roots.length kR')).putBox 4 rfl 2 (.slice A3 M.length k3)).putBox 4 rfl 3 (.bool p.act)
    simp only[lsz]at HY
    obtain⟨z0,z1,z2,z3,-,-,-,-⟩:=box4 HY 4 rfl
    have HQ:Hid (∃ b,MadePtB w (ptCmd p o) b (.returned (.tuple #[.agg #[.slice C' T.cells.length kC',.slice R' T.roots.length kR',.slice A3 M.length k3,.bool p.act],.bool true])) _):=hid (by rw[HZd.out];exact⟨_,_,rvs',_,_,rfl,HY.order [1,2,3] (by decide) rfl⟩)
    clear HY H
    go_wp2
    exact bodyPost_ret (by simp[results,Tryz.results191,go_sem,z0,z1,z2,z3]) rfl HQ.out
end Go.Proofs.YtgppgjgcnpimiaaGreat
