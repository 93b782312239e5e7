/- Texts of one proof, joined, without their blanks: Ptf, Ma, Mb, ScS, ScT, S5, RcS, RlS, Psa, Psb, Psc, Psd, Asp, Pse, Psf, Yo. No condition but what each statement names. -/
import Derived.Test.YtgppgjgcnpimiaaGreatY3
import Derived.Deep.DeepCutAuto
import Derived.Deep.OwnRows
namespace Go.Proofs.YtgppgjgcnpimiaaGreat
open Go.RowKit
open Go.Lib (hid)
set_option linter.unusedVariables false
set_option linter.unusedSimpArgs false
theorem ptStart_len (p:Pt):(ptStart p).cols.length=p.cols.length:=by
 unfold ptStart
 split
 ·rfl
 ·exact greys_len _ _
theorem ptFinish_len (p:Pt):(ptFinish p).cols.length=p.cols.length:=by
 unfold ptFinish
 split
 ·simp
 ·rfl
theorem ptCmd_len (p:Pt) (o:Cmd):(ptCmd p o).store.cells.length<=p.store.cells.length+1:=by
 rw[ptCmd_store]
 unfold stepPl
 split
 ·exact (mDo_len1 (mFree_le _)).2
 ·exact Nat.le_succ _
theorem drop_cmd {l:List Cmd}{j:Nat}{x:Cmd}(h:Hid (l[j]?=some x)):l.drop j=x::l.drop (j+1):=by
 obtain⟨hj,e⟩:=List.getElem?_eq_some_iff.1 h.out
 rw[List.drop_eq_getElem_cons hj,e]
set_option maxHeartbeats 1600000 in
set_option maxRecDepth 20000 in
theorem isScript_any (w:World) (B:Nat) (A:Option Addr) (c:Nat) (hr:RdI w B A 3 c [1,0,-1]):
  Calls Tryz.prog 187 #[.slice A 3 c] w fun e w'=>e=.returned (.bool true)/\w=w':=by
 go_enter Tryz.func187,Tryz.ntmps187
 go_wp2_with fail
 go_loopw [7] (fun i wr=>∃ k:Nat,i=.int .i64 k/\k<=3/\w=wr) (fun i _=>3 - (intOf i).toNat)
 case atStart=>exact⟨0,rfl,Nat.zero_le _,rfl⟩
 case round =>
  obtain⟨k,rfl,hk,rfl⟩:=hrel
  by_cases hlt:k<3
  ·obtain⟨b,o,y,rfl,hbb,hy,p1⟩:=RdI.at_ hr hlt
   have hm:=List.mem_of_getElem? hy.out
   have y1:¬ y < -1:=by simp at hm;omega
   have y2:¬ 5<y:=by simp at hm;omega
   clear hy hm
   go_wp2
   go_roundw
   case rel=>exact⟨k+1,by go_num,by omega,trivial⟩
   case measure=>simp[intOf];omega
  ·go_wp2
   go_ret
   exact⟨rfl,rfl⟩
set_option maxHeartbeats 12800000 in
set_option maxRecDepth 20000 in
theorem implRunPaint_any (w:World) (B:Nat) (A:Option Addr) (n0 c0:Nat) (cs:List Cmd) (hr:RdQ w B A n0 c0 cs) (hok:cmdsOk cs=true) (B2:Nat) (A2:Option Addr) (c2:Nat) (hs:RdI w B2 A2 3 c2 [1,0,-1]):
  Calls Tryz.prog 186 #[.slice A n0 c0,.slice A2 3 c2] w (MadeHp w (mPaint cs)):=by
 have hr:=hr.top
 have hs:=hs.top
 obtain rfl:=hr.len
 have hm:=Nat.le_trans hr.cap hr.mx
 unfold maxLen at hm
 have H:=(Owns.nil w).box [.slice none 0 0,.slice none 0 0] 29
 have HC:=hid hok
 have HA:=hid (cmdsOk_all hok)
 have h40:cs.length<=40:=(cmdsOk_iff.1 hok).2
 obtain⟨RR,hRR⟩:∃ r,r=runPt 0 ⟨emptyH,[],false⟩ cs:=⟨_,rfl⟩
 have HF:Hid (mPaint cs=(ptFinish RR).store):=hid (by unfold mPaint;rw[if_pos hok,hRR])
 have HR0:Hid (runPt 0 ⟨emptyH,[],false⟩ (cs.drop 0)=RR):=hid (by rw[hRR,List.drop_zero])
 clear hok hRR
 go_enter Tryz.func186,Tryz.ntmps186
 go_wp2_with fail
 refine (implCommandsValid_any _ _ _ _ _ cs (hr.below H.below)).mono ?_
 rintro e w1 ⟨rfl,hb⟩
 rw[HC.out]
 replace H:=H.call hb
 clear hb
 go_wp2_with fail
 refine (isScript_any _ _ _ _ (hs.below H.below)).mono ?_
 rintro e w2 ⟨rfl,hw⟩
 obtain rfl:=hw
 go_wp2_with fail
 refine (implEmptyHeap_any _).mono ?_
 rintro e w3 ⟨cv,rvs,rv,rfl,K⟩
 replace K:=H.merge K
 simp only[lca]at K
 obtain⟨C,kC,rfl,-⟩:=K.formC 0 rfl
 obtain⟨R,kR,rfl,-⟩:=K.formI 1 rfl
 clear H
 have K2:=(K.noInts).box [.slice C emptyH.cells.length kC,.slice R emptyH.roots.length kR,.slice none 0 0,.bool false] 109
 have H3:=K2.order [0,1,2,3,4] (L':=ptL w3.heap.size C R none emptyH.cells.length emptyH.roots.length 0 kC kR 0 rvs ⟨emptyH,[],false⟩ [.box w.heap.size [.slice none 0 0,.slice none 0 0] 29]) (by decide) rfl
 clear K K2
 go_wp2_with fail
 generalize hgx:w3.heap.size=gx at *
 go_loopw [22] (fun i wr=>∃ (k:Nat) (C R E:Option Addr) (n m q kC kR kE:Nat) (rvs:List Value) (p:Pt),i=.int .i64 k/\k<=cs.length/\Hid (runPt k p (cs.drop k)=RR)/\Hid (PtOk p)/\p.store.cells.length<=k/\Hid (p.cols.length=q)/\Owns w.heap.size w wr (ptL gx C R E n m q kC kR kE rvs p [.box w.heap.size [.slice none 0 0,.slice none 0 0] 29])) (fun i _=>cs.length - (intOf i).toNat)
 case atStart=>exact⟨0,C,R,none,_,_,0,kC,kR,0,rvs,⟨emptyH,[],false⟩,rfl,Nat.zero_le _,HR0,hid ptEmpty_ok,Nat.le_refl _,hid rfl,H3⟩
 case round =>
  clear H3 HR0 hgx
  obtain⟨k,C,R,E,n,m,q,kC,kR,kE,rvs,p,rfl,hk,HR,GG,hal,HQ,H⟩:=hrel
  by_cases hlt:k<cs.length
  ·obtain⟨b,ob,o,rfl,hbb,hx,q1,q2,q3,q4⟩:=hr.at_ hlt
   have HP:Hid (cmdOk o=true):=hid (HA.out o (List.mem_of_getElem? hx.out))
   have g1:=H.ro q1 hbb
   have g2:=H.ro q2 hbb
   have g3:=H.ro q3 hbb
   have g4:=H.ro q4 hbb
   have H0:=(H.box [.int .i64 o.op,.int .i64 o.a,.int .i64 o.b,.int .i64 o.c] 79).order [1,2,3,4,0,5] (L':=ptL gx C R E n m q kC kR kE rvs p [.box wr.heap.size [.int .i64 o.op,.int .i64 o.a,.int .i64 o.b,.int .i64 o.c] 79,.box w.heap.size [.slice none 0 0,.slice none 0 0] 29]) (by decide) rfl
   generalize hcx:wr.heap.size=cx at H0
   clear H q1 q2 q3 q4
   obtain⟨bs,os,ys,rfl,hbs,hys,ps⟩:=RdI.at_ hs (show k % 3<3 by omega)
   have gs:=H0.ro ps hbs
   have e1:Int.tmod (k:Int) 3=((k % 3:Nat):Int):=(Int.ofNat_tmod k 3).symm
   have e2:(0:Int)<=((k % 3:Nat):Int):=by omega
   have e3:((k % 3:Nat):Int)<3:=by omega
   clear ps
   rcases (show k % 3=0\/k % 3=1\/k % 3=2 by omega) with h3|h3|h3
   ·rw[h3]at hys gs e1
    simp only[Nat.add_zero]at gs
    have hy1:ys=1:=by have:=hys.out;simpa using this.symm
    subst hy1
    have hpre:ptPre k p=ptStep (ptStart p):=by unfold ptPre;rw[if_pos h3]
    have HE:Hid (runPt (k+1) (ptCmd (ptStep (ptStart p)) o) (cs.drop (k+1))=RR):=hid (by rw[<-HR.out,drop_cmd hx,<-hpre];rfl)
    have HQ2:Hid (PtOk (ptStep (ptStart p))/\(ptStep (ptStart p)).cols.length=q):=hid ⟨by rw[<-hpre];exact (ptPre_ok (k:=k) GG.out).1,by rw[(ptStep_same _).2.2,ptStart_len];exact HQ.out⟩
    have HL2:Hid ((ptStep (ptStart p)).store.cells.length<40):=hid (by rw[<-hpre,(ptPre_ok (k:=k) GG.out).2.2];omega)
    have HTG:Hid (PtOk (ptCmd (ptStep (ptStart p)) o)):=hid (ptCmd_ok HQ2.out.1 HP.out HL2.out)
    have HNl:Hid ((ptCmd (ptStep (ptStart p)) o).store.cells.length<=k+1):=hid (by have h1:=ptCmd_len (ptStep (ptStart p)) o;rw[<-hpre,(ptPre_ok (k:=k) GG.out).2.2,hpre]at h1;omega)
    generalize hP2:ptStep (ptStart p)=P2 at HE HQ2 HL2 HTG HNl
    have HSt:=hid (ptStart_ok GG.out)
    have HSl:Hid ((ptStart p).cols.length=q):=hid (by rw[ptStart_len];exact HQ.out)
    clear hpre hys h3 HR
    go_wp2_with fail
    refine (start_own H0 GG.out HQ.out).mono ?_
    rintro e w5 ⟨⟨u,rfl⟩,H1⟩
    clear H0
    go_wp2_with fail
    go_loopw [39] (fun i ws=>∃ j:Nat,i=.int .i64 j/\j<=1/\Owns w.heap.size w ws (ptL gx C R E n m q kC kR kE rvs (ptIter j (ptStart p)) [.box cx [.int .i64 o.op,.int .i64 o.a,.int .i64 o.b,.int .i64 o.c] 79,.box w.heap.size [.slice none 0 0,.slice none 0 0] 29])) (fun i _=>1 - (intOf i).toNat)
    case atStart=>exact⟨0,rfl,Nat.zero_le _,H1⟩
    case round =>
     clear H1
     obtain⟨j,rfl,hj,H⟩:=hrel
     by_cases hlj:j<1
     ·obtain rfl:j=0:=by omega
      go_wp2_with fail
      refine (step_own H HSt.out HSl.out).mono ?_
      rintro e w6 ⟨rfl,H2⟩
      clear H
      go_wp2
      go_roundw
      case rel=>exact⟨1,by go_num,by omega,H2⟩
      case measure=>simp[intOf]
     ·obtain rfl:j=1:=by omega
      replace H:Owns w.heap.size w wr (ptL gx C R E n m q kC kR kE rvs (ptStep (ptStart p)) [.box cx [.int .i64 o.op,.int .i64 o.a,.int .i64 o.b,.int .i64 o.c] 79,.box w.heap.size [.slice none 0 0,.slice none 0 0] 29]):=H
      rw[hP2]at H
      clear hP2
      obtain⟨⟨x0,x1⟩,x2,x3⟩:=box4s H 0 rfl
      obtain⟨c0,c1,c2,c3,-,-,-,-⟩:=box4 H 4 rfl
      go_wp2_with fail
      refine (implPaintCommand_any _ _ _ P2 (H.rdPt 2 3 1 rfl rfl (rowI_ints rfl HQ2.out.2)) o HQ2.out.1 HP.out HL2.out).mono ?_
      rintro e w8 ⟨tb,cv,rvs3,rv,ov,rfl,K⟩
      replace K:=H.merge K
      simp only[lca]at K
      generalize ptCmd P2 o=Tn at *
      have hnl:=HNl.out
      clear x0 x1 x2 x3 c0 c1 c2 c3
      obtain⟨C',kC',rfl,-⟩:=K.formC 0 rfl
      obtain⟨R',kR',rfl,-⟩:=K.formI 1 rfl
      obtain⟨E',kE',rfl,-⟩:=K.formI 2 rfl
      obtain⟨x0,x1,x2,x3,x4,x5,x6,x7⟩:=box4 K 3 rfl
      have H7:=((((K.putBox 3 rfl 0 (.slice C' Tn.store.cells.length kC')).putBox 3 rfl 1 (.slice R' Tn.store.roots.length kR')).putBox 3 rfl 2 (.slice E' Tn.cols.length kE')).putBox 3 rfl 3 (.bool Tn.act)).places [3,2,0,1,8] (by decide) (by simp)
      simp only[lfm,lsz]at H7
      clear K H
      go_wp2_with fail
      go_roundw
      case rel=>exact⟨k+1,C',R',E',Tn.store.cells.length,Tn.store.roots.length,Tn.cols.length,kC',kR',kE',rvs3,Tn,by go_num,by omega,HE,HTG,hnl,hid rfl,H7⟩
      case measure=>simp[intOf];omega
   ·rw[h3]at hys gs e1
    have hy1:ys=0:=by have:=hys.out;simpa using this.symm
    subst hy1
    have hpre:ptPre k p=ptStart p:=by unfold ptPre;rw[if_neg (by omega),if_pos h3]
    have HE:Hid (runPt (k+1) (ptCmd (ptStart p) o) (cs.drop (k+1))=RR):=hid (by rw[<-HR.out,drop_cmd hx,<-hpre];rfl)
    have HQ2:Hid (PtOk (ptStart p)/\(ptStart p).cols.length=q):=hid ⟨by rw[<-hpre];exact (ptPre_ok (k:=k) GG.out).1,by rw[ptStart_len];exact HQ.out⟩
    have HL2:Hid ((ptStart p).store.cells.length<40):=hid (by rw[<-hpre,(ptPre_ok (k:=k) GG.out).2.2];omega)
    have HTG:Hid (PtOk (ptCmd (ptStart p) o)):=hid (ptCmd_ok HQ2.out.1 HP.out HL2.out)
    have HNl:Hid ((ptCmd (ptStart p) o).store.cells.length<=k+1):=hid (by have h1:=ptCmd_len (ptStart p) o;rw[<-hpre,(ptPre_ok (k:=k) GG.out).2.2,hpre]at h1;omega)
    generalize hP2:ptStart p=P2 at HE HQ2 HL2 HTG HNl
    clear hpre hys h3 HR
    go_wp2_with fail
    refine (start_own H0 GG.out HQ.out).mono ?_
    rintro e w5 ⟨⟨u,rfl⟩,H1⟩
    rw[hP2]at H1
    clear H0 hP2
    go_wp2_with fail
    go_loopw [39] (fun i ws=>i=.int .i64 0/\Owns w.heap.size w ws (ptL gx C R E n m q kC kR kE rvs P2 [.box cx [.int .i64 o.op,.int .i64 o.a,.int .i64 o.b,.int .i64 o.c] 79,.box w.heap.size [.slice none 0 0,.slice none 0 0] 29])) (fun _ _=>0)
    case atStart=>exact⟨rfl,H1⟩
    case round =>
     clear H1
     obtain⟨rfl,H⟩:=hrel
     obtain⟨⟨x0,x1⟩,x2,x3⟩:=box4s H 0 rfl
     obtain⟨c0,c1,c2,c3,-,-,-,-⟩:=box4 H 4 rfl
     go_wp2_with fail
     refine (implPaintCommand_any _ _ _ P2 (H.rdPt 2 3 1 rfl rfl (rowI_ints rfl HQ2.out.2)) o HQ2.out.1 HP.out HL2.out).mono ?_
     rintro e w8 ⟨tb,cv,rvs3,rv,ov,rfl,K⟩
     replace K:=H.merge K
     simp only[lca]at K
     generalize ptCmd P2 o=Tn at *
     have hnl:=HNl.out
     clear x0 x1 x2 x3 c0 c1 c2 c3
     obtain⟨C',kC',rfl,-⟩:=K.formC 0 rfl
     obtain⟨R',kR',rfl,-⟩:=K.formI 1 rfl
     obtain⟨E',kE',rfl,-⟩:=K.formI 2 rfl
     obtain⟨x0,x1,x2,x3,x4,x5,x6,x7⟩:=box4 K 3 rfl
     have H7:=((((K.putBox 3 rfl 0 (.slice C' Tn.store.cells.length kC')).putBox 3 rfl 1 (.slice R' Tn.store.roots.length kR')).putBox 3 rfl 2 (.slice E' Tn.cols.length kE')).putBox 3 rfl 3 (.bool Tn.act)).places [3,2,0,1,8] (by decide) (by simp)
     simp only[lfm,lsz]at H7
     clear K H
     go_wp2_with fail
     go_roundw
     case rel=>exact⟨k+1,C',R',E',Tn.store.cells.length,Tn.store.roots.length,Tn.cols.length,kC',kR',kE',rvs3,Tn,by go_num,by omega,HE,HTG,hnl,hid rfl,H7⟩
     case measure=>simp[intOf];omega
   ·rw[h3]at hys gs e1
    have hy1:ys=-1:=by have:=hys.out;simpa using this.symm
    subst hy1
    have hpre:ptPre k p=ptFinish p:=by unfold ptPre;rw[if_neg (by omega),if_neg (by omega)]
    have HE:Hid (runPt (k+1) (ptCmd (ptFinish p) o) (cs.drop (k+1))=RR):=hid (by rw[<-HR.out,drop_cmd hx,<-hpre];rfl)
    have HQ2:Hid (PtOk (ptFinish p)/\(ptFinish p).cols.length=q):=hid ⟨by rw[<-hpre];exact (ptPre_ok (k:=k) GG.out).1,by rw[ptFinish_len];exact HQ.out⟩
    have HL2:Hid ((ptFinish p).store.cells.length<40):=hid (by rw[<-hpre,(ptPre_ok (k:=k) GG.out).2.2];omega)
    have HTG:Hid (PtOk (ptCmd (ptFinish p) o)):=hid (ptCmd_ok HQ2.out.1 HP.out HL2.out)
    have HNl:Hid ((ptCmd (ptFinish p) o).store.cells.length<=k+1):=hid (by have h1:=ptCmd_len (ptFinish p) o;rw[<-hpre,(ptPre_ok (k:=k) GG.out).2.2,hpre]at h1;omega)
    generalize hP2:ptFinish p=P2 at HE HQ2 HL2 HTG HNl
    clear hpre hys h3 HR
    go_wp2_with fail
    refine (finish_own H0 GG.out HQ.out).mono ?_
    rintro e w5 ⟨fr,rvs2,rfl,H1⟩
    rw[hP2]at H1
    clear H0 hP2
    go_wp2_with fail
    go_loopw [39] (fun i ws=>i=.int .i64 0/\Owns w.heap.size w ws (ptL gx C R E n m q kC kR kE rvs2 P2 [.box cx [.int .i64 o.op,.int .i64 o.a,.int .i64 o.b,.int .i64 o.c] 79,.box w.heap.size [.slice none 0 0,.slice none 0 0] 29])) (fun _ _=>0)
    case atStart=>exact⟨rfl,H1⟩
    case round =>
     clear H1
     obtain⟨rfl,H⟩:=hrel
     obtain⟨⟨x0,x1⟩,x2,x3⟩:=box4s H 0 rfl
     obtain⟨c0,c1,c2,c3,-,-,-,-⟩:=box4 H 4 rfl
     go_wp2_with fail
     refine (implPaintCommand_any _ _ _ P2 (H.rdPt 2 3 1 rfl rfl (rowI_ints rfl HQ2.out.2)) o HQ2.out.1 HP.out HL2.out).mono ?_
     rintro e w8 ⟨tb,cv,rvs3,rv,ov,rfl,K⟩
     replace K:=H.merge K
     simp only[lca]at K
     generalize ptCmd P2 o=Tn at *
     have hnl:=HNl.out
     clear x0 x1 x2 x3 c0 c1 c2 c3
     obtain⟨C',kC',rfl,-⟩:=K.formC 0 rfl
     obtain⟨R',kR',rfl,-⟩:=K.formI 1 rfl
     obtain⟨E',kE',rfl,-⟩:=K.formI 2 rfl
     obtain⟨x0,x1,x2,x3,x4,x5,x6,x7⟩:=box4 K 3 rfl
     have H7:=((((K.putBox 3 rfl 0 (.slice C' Tn.store.cells.length kC')).putBox 3 rfl 1 (.slice R' Tn.store.roots.length kR')).putBox 3 rfl 2 (.slice E' Tn.cols.length kE')).putBox 3 rfl 3 (.bool Tn.act)).places [3,2,0,1,8] (by decide) (by simp)
     simp only[lfm,lsz]at H7
     clear K H
     go_wp2_with fail
     go_roundw
     case rel=>exact⟨k+1,C',R',E',Tn.store.cells.length,Tn.store.roots.length,Tn.cols.length,kC',kR',kE',rvs3,Tn,by go_num,by omega,HE,HTG,hnl,hid rfl,H7⟩
     case measure=>simp[intOf];omega
  ·have HE:Hid (p=RR):=hid (by have:=HR.out;rwa [List.drop_eq_nil_of_le (by omega)]at this)
   go_wp2_with fail
   refine (finish_own H GG.out HQ.out).mono ?_
   rintro e w5 ⟨fr,rvs2,rfl,H1⟩
   rw[HE.out]at H1
   obtain⟨T,hT⟩:∃ T,T=ptFinish RR:=⟨_,rfl⟩
   rw[<-hT]at H1
   have HFT:Hid (mPaint cs=T.store):=hid (by rw[HF.out,hT])
   clear H hT
   obtain⟨⟨x0,x1⟩,x2,x3⟩:=box4s H1 0 rfl
   obtain⟨y0,y1,y2,y3⟩:=H1.box2 4 rfl
   have HZ:=(H1.putBox 4 rfl 0 (.slice C n kC)).putBox 4 rfl 1 (.slice R m kR)
   simp only[lsz]at HZ
   obtain⟨z0,z1,-,-⟩:=HZ.box2 4 rfl
   have HS:Hid (MadeHp w (mPaint cs) (.returned (.agg #[.slice C n kC,.slice R m kR])) _):=hid (by rw[HFT.out];exact⟨_,rvs2,_,rfl,HZ.order [2,3] (by decide) rfl⟩)
   clear H1 HZ
   go_wp2
   exact bodyPost_ret (by simp[results,Tryz.results186,go_sem,z0,z1]) rfl HS.out
theorem field_counts (C R N:Option Addr) (a b c k l m:Nat) (w:World):(Instr.field 60 (.agg #[.slice C a k,.slice R b l,.slice N c m]) 0).run Tryz.prog w=.ok (.agg #[.slice C a k,.slice R b l]) w:=by kernel_rfl
theorem field_aged (C R V W:Option Addr) (a b c d k l m n:Nat) (w:World):(Instr.field 64 (.agg #[.slice C a k,.slice R b l,.slice V c m,.slice W d n]) 0).run Tryz.prog w=.ok (.agg #[.slice C a k,.slice R b l]) w:=by kernel_rfl
def manV (m:Int):Value:=if m=1 then .iface 93 (.agg #[]) else if m=2 then .iface 94 (.agg #[]) else if m=3 then .iface 95 (.agg #[]) else if m=4 then .iface 96 (.agg #[]) else if m=5 then .iface 97 (.agg #[]) else if m=6 then .iface 98 (.agg #[]) else if m=7 then .iface 99 (.agg #[]) else .nilIface
noncomputable def mManR (m:Int) (cs:List Cmd) (L:Int):Bool:=if m=3 then mRunSwB cs L else if m=4 then mRunCpB mCopy cs L else if m=5 then mRunCpB mSlide cs L else true
theorem manB_eq (m:Int) (cs:List Cmd) (L:Int):mManB m cs L=(cmdsOk cs && inR L 1 40 && inR m 1 7 && mManR m cs L):=rfl
set_option maxHeartbeats 1600000 in
theorem managerOf_any (m:Int) (w:World):Calls Tryz.prog 29 #[.int .i64 m] w fun e w'=>e=.returned (manV m)/\w=w':=by
 by_cases h1:m=1
 ·subst h1
  go_enter Tryz.func29,Tryz.ntmps29
  go_wp2
  go_ret
  exact⟨rfl,rfl⟩
 by_cases h2:m=2
 ·subst h2
  go_enter Tryz.func29,Tryz.ntmps29
  go_wp2
  go_ret
  exact⟨rfl,rfl⟩
 by_cases h3:m=3
 ·subst h3
  go_enter Tryz.func29,Tryz.ntmps29
  go_wp2
  go_ret
  exact⟨rfl,rfl⟩
 by_cases h4:m=4
 ·subst h4
  go_enter Tryz.func29,Tryz.ntmps29
  go_wp2
  go_ret
  exact⟨rfl,rfl⟩
 by_cases h5:m=5
 ·subst h5
  go_enter Tryz.func29,Tryz.ntmps29
  go_wp2
  go_ret
  exact⟨rfl,rfl⟩
 by_cases h6:m=6
 ·subst h6
  go_enter Tryz.func29,Tryz.ntmps29
  go_wp2
  go_ret
  exact⟨rfl,rfl⟩
 by_cases h7:m=7
 ·subst h7
  go_enter Tryz.func29,Tryz.ntmps29
  go_wp2
  go_ret
  exact⟨rfl,rfl⟩
 have k1:(m == 1)=false:=by simp[h1]
 have k2:(m == 2)=false:=by simp[h2]
 have k3:(m == 3)=false:=by simp[h3]
 have k4:(m == 4)=false:=by simp[h4]
 have k5:(m == 5)=false:=by simp[h5]
 have k6:(m == 6)=false:=by simp[h6]
 have k7:(m == 7)=false:=by simp[h7]
 have HV:Hid (manV m=.nilIface):=hid (by unfold manV;rw[if_neg h1,if_neg h2,if_neg h3,if_neg h4,if_neg h5,if_neg h6,if_neg h7])
 clear h1 h2 h3 h4 h5 h6 h7
 go_enter Tryz.func29,Tryz.ntmps29
 go_wp2
 go_ret
 exact⟨HV.out.symm ▸ rfl,rfl⟩
set_option maxHeartbeats 1600000 in
set_option maxRecDepth 20000 in
theorem noneRun_any (w:World) (B:Nat) (A:Option Addr) (n c:Nat) (cs:List Cmd) (hr:RdQ w B A n c cs) (LI:Int):
  Calls Tryz.prog 141 #[.agg #[],.slice A n c,.int .i64 LI] w (MadeHBl w (mRun cs) true):=by
 have hr:=hr.top
 have H:=((Owns.nil w).box [] 93).box [.slice none 0 0,.slice none 0 0] 29
 simp only[lnm]at H
 go_enter Tryz.func141,Tryz.ntmps141
 go_wp2_with fail
 refine (implRunHeap_any _ _ _ _ _ cs (hr.below H.below)).mono ?_
 rintro e w1 ⟨cv,rvs,rv,rfl,K⟩
 replace K:=H.merge K
 simp only[lca]at K
 generalize mRun cs=T at *
 clear H
 obtain⟨C,kC,rfl,-⟩:=K.formC 0 rfl
 obtain⟨R,kR,rfl,-⟩:=K.formI 1 rfl
 obtain⟨y0,y1,y2,y3⟩:=K.box2 2 rfl
 have HZ:=(K.putBox 2 rfl 0 (.slice C T.cells.length kC)).putBox 2 rfl 1 (.slice R T.roots.length kR)
 simp only[lnm]at HZ
 obtain⟨z0,z1,-,-⟩:=HZ.box2 2 rfl
 obtain⟨z2,-,-,-⟩:=(K.putBox 2 rfl 0 (.slice C T.cells.length kC)).box2 2 rfl
 have HS:Hid (MadeHBl w T true (.returned (.tuple #[.agg #[.slice C T.cells.length kC,.slice R T.roots.length kR],.bool true])) _):=hid ⟨_,rvs,_,rfl,HZ.take 2⟩
 clear K HZ
 go_wp2
 exact bodyPost_ret (by simp[results,Tryz.results141,go_sem,z0,z1,z2]) rfl HS.out
set_option maxHeartbeats 1600000 in
set_option maxRecDepth 20000 in
theorem countsRun_any (w:World) (B:Nat) (A:Option Addr) (n c:Nat) (cs:List Cmd) (hr:RdQ w B A n c cs) (hok:cmdsOk cs=true) (LI:Int):
  Calls Tryz.prog 142 #[.agg #[],.slice A n c,.int .i64 LI] w (MadeHBl w (mCt cs) true):=by
 have hr:=hr.top
 have H:=((Owns.nil w).box [] 94).box [.slice none 0 0,.slice none 0 0] 29
 simp only[lnm]at H
 go_enter Tryz.func142,Tryz.ntmps142
 go_wp2_with fail
 refine (implRunCounted_any _ _ _ _ _ cs (hr.below H.below) hok).mono ?_
 rintro e w1 ⟨cv,rvs,rv,nv,rfl,K⟩
 replace K:=H.merge K
 simp only[lca]at K
 generalize mCt cs=T at *
 clear H
 obtain⟨C,kC,rfl,-⟩:=K.formC 0 rfl
 obtain⟨R,kR,rfl,-⟩:=K.formI 1 rfl
 obtain⟨N,kN,rfl,-⟩:=K.formI 2 rfl
 have hfd:=field_counts C R N T.cells.length T.roots.length (mCounts T).length kC kR kN
 obtain⟨y0,y1,y2,y3⟩:=K.box2 3 rfl
 have HZ:=(K.putBox 3 rfl 0 (.slice C T.cells.length kC)).putBox 3 rfl 1 (.slice R T.roots.length kR)
 simp only[lnm]at HZ
 obtain⟨z0,z1,-,-⟩:=HZ.box2 3 rfl
 obtain⟨z2,-,-,-⟩:=(K.putBox 3 rfl 0 (.slice C T.cells.length kC)).box2 3 rfl
 have HS:Hid (MadeHBl w T true (.returned (.tuple #[.agg #[.slice C T.cells.length kC,.slice R T.roots.length kR],.bool true])) _):=hid ⟨_,rvs,_,rfl,HZ.take 2⟩
 clear K HZ
 go_wp2
 exact bodyPost_ret (by simp[results,Tryz.results142,go_sem,z0,z1,z2]) rfl HS.out
set_option maxHeartbeats 1600000 in
set_option maxRecDepth 20000 in
theorem paintRun_any (w:World) (B:Nat) (A:Option Addr) (n c:Nat) (cs:List Cmd) (hr:RdQ w B A n c cs) (hok:cmdsOk cs=true) (LI:Int):
  Calls Tryz.prog 185 #[.agg #[],.slice A n c,.int .i64 LI] w (MadeHBl w (mPaint cs) true):=by
 have hr:=hr.top
 have H:=((Owns.nil w).box [] 99).box [.slice none 0 0,.slice none 0 0] 29
 simp only[lnm]at H
 have H1:=H.litI [1,0,-1] (by unfold maxLen;decide)
 simp only[lml,Nat.reduceAdd,World.size_alloc]at H1
 go_enter Tryz.func185,Tryz.ntmps185
 go_wp2_with fail
 refine (implRunPaint_any _ _ _ _ _ cs (hr.below H1.below) hok _ _ _ (H1.owI 0 rfl).rdI).mono ?_
 rintro e w1 ⟨cv,rvs,rv,rfl,K⟩
 replace K:=H1.merge K
 simp only[lca]at K
 generalize mPaint cs=T at *
 clear H H1
 obtain⟨C,kC,rfl,-⟩:=K.formC 0 rfl
 obtain⟨R,kR,rfl,-⟩:=K.formI 1 rfl
 obtain⟨y0,y1,y2,y3⟩:=K.box2 3 rfl
 have HZ:=(K.putBox 3 rfl 0 (.slice C T.cells.length kC)).putBox 3 rfl 1 (.slice R T.roots.length kR)
 simp only[lnm]at HZ
 obtain⟨z0,z1,-,-⟩:=HZ.box2 3 rfl
 obtain⟨z2,-,-,-⟩:=(K.putBox 3 rfl 0 (.slice C T.cells.length kC)).box2 3 rfl
 have HS:Hid (MadeHBl w T true (.returned (.tuple #[.agg #[.slice C T.cells.length kC,.slice R T.roots.length kR],.bool true])) _):=hid ⟨_,rvs,_,rfl,HZ.take 2⟩
 clear K HZ
 go_wp2
 exact bodyPost_ret (by simp[results,Tryz.results185,go_sem,z0,z1,z2]) rfl HS.out
set_option maxHeartbeats 1600000 in
set_option maxRecDepth 20000 in
theorem agedRun_any (w:World) (B:Nat) (A:Option Addr) (n c:Nat) (cs:List Cmd) (hr:RdQ w B A n c cs) (hok:cmdsOk cs=true) (LI:Int) (hL1:1<=LI) (hL2:LI<=40):
  Calls Tryz.prog 176 #[.agg #[],.slice A n c,.int .i64 LI] w (MadeHBl w (mAg LI.toNat cs).store true):=by
 have hr:=hr.top
 have H:=((Owns.nil w).box [] 98).box [.slice none 0 0,.slice none 0 0] 29
 simp only[lnm]at H
 obtain⟨E,rfl⟩:=Int.eq_ofNat_of_zero_le (by omega:0<=LI)
 simp only[Int.toNat_natCast]
 have m1:min (E:Int) 40=(E:Int):=by omega
 have m2:¬ (40:Int)<(E:Int):=by omega
 go_enter Tryz.func176,Tryz.ntmps176
 go_wp2_with fail
 refine (implRunAged_any _ _ _ _ _ cs (hr.below H.below) hok E (by omega) (by omega)).mono ?_
 rintro e w1 ⟨cv,rvs,rv,ov,nv,rfl,K⟩
 replace K:=H.merge K
 simp only[lca]at K
 generalize (mAg E cs).store=T at *
 clear H
 obtain⟨C,kC,rfl,-⟩:=K.formC 0 rfl
 obtain⟨R,kR,rfl,-⟩:=K.formI 1 rfl
 obtain⟨V,kV,rfl,-⟩:=K.formB 2 rfl
 obtain⟨W,kW,rfl,-⟩:=K.formB 3 rfl
 have hfd:=field_aged C R V W T.cells.length T.roots.length (mAg E cs).old.length (mAg E cs).noted.length kC kR kV kW
 obtain⟨y0,y1,y2,y3⟩:=K.box2 4 rfl
 have HZ:=(K.putBox 4 rfl 0 (.slice C T.cells.length kC)).putBox 4 rfl 1 (.slice R T.roots.length kR)
 simp only[lnm]at HZ
 obtain⟨z0,z1,-,-⟩:=HZ.box2 4 rfl
 obtain⟨z2,-,-,-⟩:=(K.putBox 4 rfl 0 (.slice C T.cells.length kC)).box2 4 rfl
 have HS:Hid (MadeHBl w T true (.returned (.tuple #[.agg #[.slice C T.cells.length kC,.slice R T.roots.length kR],.bool true])) _):=hid ⟨_,rvs,_,rfl,HZ.take 2⟩
 clear K HZ
 go_wp2
 exact bodyPost_ret (by simp[results,Tryz.results176,go_sem,z0,z1,z2]) rfl HS.out
set_option maxHeartbeats 1600000 in
set_option maxRecDepth 20000 in
theorem sweepRun_any (w:World) (B:Nat) (A:Option Addr) (n c:Nat) (cs:List Cmd) (hr:RdQ w B A n c cs) (LI:Int):
  Calls Tryz.prog 153 #[.agg #[],.slice A n c,.int .i64 LI] w (MadeHBl w (mRunSwH cs LI) (mRunSwB cs LI)):=by
 have hr:=hr.top
 have H:=((Owns.nil w).box [] 95).box [.slice none 0 0,.slice none 0 0] 29
 simp only[lnm]at H
 go_enter Tryz.func153,Tryz.ntmps153
 go_wp2_with fail
 refine (implRunSweep_any _ _ _ _ _ cs (hr.below H.below) LI).mono ?_
 rintro e w1 ⟨cv,rvs,rv,rfl,K⟩
 replace K:=H.merge K
 simp only[lca]at K
 generalize mRunSwH cs LI=T at *
 generalize mRunSwB cs LI=tb at *
 clear H
 obtain⟨C,kC,rfl,-⟩:=K.formC 0 rfl
 obtain⟨R,kR,rfl,-⟩:=K.formI 1 rfl
 obtain⟨y0,y1,y2,y3⟩:=K.box2 2 rfl
 have HZ:=(K.putBox 2 rfl 0 (.slice C T.cells.length kC)).putBox 2 rfl 1 (.slice R T.roots.length kR)
 simp only[lnm]at HZ
 obtain⟨z0,z1,-,-⟩:=HZ.box2 2 rfl
 obtain⟨z2,-,-,-⟩:=(K.putBox 2 rfl 0 (.slice C T.cells.length kC)).box2 2 rfl
 have HS:Hid (MadeHBl w T tb (.returned (.tuple #[.agg #[.slice C T.cells.length kC,.slice R T.roots.length kR],.bool tb])) _):=hid ⟨_,rvs,_,rfl,HZ.take 2⟩
 clear K HZ
 go_wp2
 exact bodyPost_ret (by simp[results,Tryz.results153,go_sem,z0,z1,z2]) rfl HS.out
set_option maxHeartbeats 1600000 in
set_option maxRecDepth 20000 in
theorem copyRun_any (w:World) (B:Nat) (A:Option Addr) (n c:Nat) (cs:List Cmd) (hr:RdQ w B A n c cs) (LI:Int):
  Calls Tryz.prog 167 #[.agg #[],.slice A n c,.int .i64 LI] w (MadeHBl w (mRunCpH mCopy cs LI) (mRunCpB mCopy cs LI)):=by
 have hr:=hr.top
 have H:=((Owns.nil w).box [] 96).box [.slice none 0 0,.slice none 0 0] 29
 simp only[lnm]at H
 go_enter Tryz.func167,Tryz.ntmps167
 go_wp2_with fail
 refine (implRunCopy_any _ _ _ _ _ cs (hr.below H.below) LI).mono ?_
 rintro e w1 ⟨cv,rvs,rv,rfl,K⟩
 replace K:=H.merge K
 simp only[lca]at K
 generalize mRunCpH mCopy cs LI=T at *
 generalize mRunCpB mCopy cs LI=tb at *
 clear H
 obtain⟨C,kC,rfl,-⟩:=K.formC 0 rfl
 obtain⟨R,kR,rfl,-⟩:=K.formI 1 rfl
 obtain⟨y0,y1,y2,y3⟩:=K.box2 2 rfl
 have HZ:=(K.putBox 2 rfl 0 (.slice C T.cells.length kC)).putBox 2 rfl 1 (.slice R T.roots.length kR)
 simp only[lnm]at HZ
 obtain⟨z0,z1,-,-⟩:=HZ.box2 2 rfl
 obtain⟨z2,-,-,-⟩:=(K.putBox 2 rfl 0 (.slice C T.cells.length kC)).box2 2 rfl
 have HS:Hid (MadeHBl w T tb (.returned (.tuple #[.agg #[.slice C T.cells.length kC,.slice R T.roots.length kR],.bool tb])) _):=hid ⟨_,rvs,_,rfl,HZ.take 2⟩
 clear K HZ
 go_wp2
 exact bodyPost_ret (by simp[results,Tryz.results167,go_sem,z0,z1,z2]) rfl HS.out
set_option maxHeartbeats 1600000 in
set_option maxRecDepth 20000 in
theorem slideRun_any (w:World) (B:Nat) (A:Option Addr) (n c:Nat) (cs:List Cmd) (hr:RdQ w B A n c cs) (LI:Int):
  Calls Tryz.prog 172 #[.agg #[],.slice A n c,.int .i64 LI] w (MadeHBl w (mRunCpH mSlide cs LI) (mRunCpB mSlide cs LI)):=by
 have hr:=hr.top
 have H:=((Owns.nil w).box [] 97).box [.slice none 0 0,.slice none 0 0] 29
 simp only[lnm]at H
 go_enter Tryz.func172,Tryz.ntmps172
 go_wp2_with fail
 refine (implRunSlide_any _ _ _ _ _ cs (hr.below H.below) LI).mono ?_
 rintro e w1 ⟨cv,rvs,rv,rfl,K⟩
 replace K:=H.merge K
 simp only[lca]at K
 generalize mRunCpH mSlide cs LI=T at *
 generalize mRunCpB mSlide cs LI=tb at *
 clear H
 obtain⟨C,kC,rfl,-⟩:=K.formC 0 rfl
 obtain⟨R,kR,rfl,-⟩:=K.formI 1 rfl
 obtain⟨y0,y1,y2,y3⟩:=K.box2 2 rfl
 have HZ:=(K.putBox 2 rfl 0 (.slice C T.cells.length kC)).putBox 2 rfl 1 (.slice R T.roots.length kR)
 simp only[lnm]at HZ
 obtain⟨z0,z1,-,-⟩:=HZ.box2 2 rfl
 obtain⟨z2,-,-,-⟩:=(K.putBox 2 rfl 0 (.slice C T.cells.length kC)).box2 2 rfl
 have HS:Hid (MadeHBl w T tb (.returned (.tuple #[.agg #[.slice C T.cells.length kC,.slice R T.roots.length kR],.bool tb])) _):=hid ⟨_,rvs,_,rfl,HZ.take 2⟩
 clear K HZ
 go_wp2
 exact bodyPost_ret (by simp[results,Tryz.results172,go_sem,z0,z1,z2]) rfl HS.out
theorem manX_1 {cs:List Cmd}(hc:cmdsOk cs=true) (LI:Int):mManX 1 cs LI=mRun cs:=rfl
theorem manR_1 (cs:List Cmd) (LI:Int):(inR 1 1 7 && mManR 1 cs LI)=true:=by rfl
theorem manX_2 {cs:List Cmd}(hc:cmdsOk cs=true) (LI:Int):mManX 2 cs LI=mCt cs:=by unfold mCt;rw[if_pos hc];rfl
theorem manR_2 (cs:List Cmd) (LI:Int):(inR 2 1 7 && mManR 2 cs LI)=true:=by rfl
theorem manX_3 {cs:List Cmd}(hc:cmdsOk cs=true) (LI:Int):mManX 3 cs LI=mRunSwH cs LI:=rfl
theorem manR_3 (cs:List Cmd) (LI:Int):(inR 3 1 7 && mManR 3 cs LI)=mRunSwB cs LI:=by show (true && _)=_;rw[Bool.true_and];rfl
theorem manX_4 {cs:List Cmd}(hc:cmdsOk cs=true) (LI:Int):mManX 4 cs LI=mRunCpH mCopy cs LI:=rfl
theorem manR_4 (cs:List Cmd) (LI:Int):(inR 4 1 7 && mManR 4 cs LI)=mRunCpB mCopy cs LI:=by show (true && _)=_;rw[Bool.true_and];rfl
theorem manX_5 {cs:List Cmd}(hc:cmdsOk cs=true) (LI:Int):mManX 5 cs LI=mRunCpH mSlide cs LI:=rfl
theorem manR_5 (cs:List Cmd) (LI:Int):(inR 5 1 7 && mManR 5 cs LI)=mRunCpB mSlide cs LI:=by show (true && _)=_;rw[Bool.true_and];rfl
theorem manX_6 {cs:List Cmd}(hc:cmdsOk cs=true) (LI:Int):mManX 6 cs LI=(mAg LI.toNat cs).store:=rfl
theorem manR_6 (cs:List Cmd) (LI:Int):(inR 6 1 7 && mManR 6 cs LI)=true:=by rfl
theorem manX_7 {cs:List Cmd}(hc:cmdsOk cs=true) (LI:Int):mManX 7 cs LI=mPaint cs:=rfl
theorem manR_7 (cs:List Cmd) (LI:Int):(inR 7 1 7 && mManR 7 cs LI)=true:=by rfl
theorem nil_eq (w:World):(binOp .eql 54 .nilIface .nilIface).run Tryz.prog w=.ok (.bool (!false)) w:=by kernel_rfl
theorem nil_guard (w:World):(eqGuard .eql 54 (.tmp 13) (.const .nilIface) .nilIface .nilIface).run Tryz.prog w=.ok () w:=by kernel_rfl
theorem man_eq (m:Int) (w:World):(binOp .eql 54 (manV m) .nilIface).run Tryz.prog w=.ok (.bool (!inR m 1 7)) w:=by
 by_cases h:1<=m/\m<=7
 ·rw[show inR m 1 7=true from inR_iff.2 h]
  rcases (show m=1\/m=2\/m=3\/m=4\/m=5\/m=6\/m=7 by omega) with rfl|rfl|rfl|rfl|rfl|rfl|rfl <;> kernel_rfl
 ·rw[show inR m 1 7=false by rw[<-Bool.not_eq_true,inR_iff];exact h]
  have e:manV m=.nilIface:=by
   unfold manV
   iterate 7 rw[if_neg (by omega)]
  rw[e]
  exact nil_eq w
theorem man_guard (m:Int) (w:World):(eqGuard .eql 54 (.tmp 13) (.const .nilIface) (manV m) .nilIface).run Tryz.prog w=.ok () w:=by
 by_cases h:1<=m/\m<=7
 ·rcases (show m=1\/m=2\/m=3\/m=4\/m=5\/m=6\/m=7 by omega) with rfl|rfl|rfl|rfl|rfl|rfl|rfl <;> kernel_rfl
 ·have e:manV m=.nilIface:=by
   unfold manV
   iterate 7 rw[if_neg (by omega)]
  rw[e]
  exact nil_guard w
set_option maxHeartbeats 6400000 in
set_option maxRecDepth 20000 in
theorem implRunManager_any (w:World) (B:Nat) (A:Option Addr) (n c:Nat) (cs:List Cmd) (hr:RdQ w B A n c cs) (m LI:Int):
  Calls Tryz.prog 8 #[.int .i64 m,.slice A n c,.int .i64 LI] w (MadeHBl w (mManH m cs LI) (mManB m cs LI)):=by
 have hr:=hr.top
 have H:=(Owns.nil w).box [.slice none 0 0,.slice none 0 0] 29
 have qn:=man_eq m
 have qg:=man_guard m
 obtain⟨mv,hmv⟩:∃ v,v=manV m:=⟨_,rfl⟩
 rw[<-hmv]at qn qg
 have HV:=hid hmv
 clear hmv
 go_enter Tryz.func8,Tryz.ntmps8
 go_wp2_with fail
 refine (managerOf_any _ _).mono ?_
 rintro e w1 ⟨rfl,hw⟩
 obtain rfl:=hw
 rw[<-HV.out]
 obtain⟨y0,y1,y2,y3⟩:=H.box2 0 rfl
 cases hm:inR m 1 7
 ·rw[hm]at qn
  have HF:Hid (mManB m cs LI=false):=hid (by rw[manB_eq,hm];simp)
  have HF2:Hid (mManH m cs LI=⟨[],[]⟩):=hid (by unfold mManH;rw[HF.out];rfl)
  have HZ:=(H.noInts).noCells
  try simp only[lsz]at HZ
  obtain⟨z0,z1,-,-⟩:=HZ.box2 2 rfl
  have HS:Hid (MadeHBl w (mManH m cs LI) (mManB m cs LI) (.returned (.tuple #[.agg #[.slice none 0 0,.slice none 0 0],.bool false])) _):=hid (by rw[HF.out,HF2.out];exact⟨_,[],_,rfl,HZ.take 2⟩)
  clear HZ H
  go_wp2
  exact bodyPost_ret (by simp[results,Tryz.results8,go_sem,z0,z1]) rfl HS.out
 rw[hm]at qn
 go_wp2_with fail
 refine (implCommandsValid_any _ _ _ _ _ cs (hr.below H.below)).mono ?_
 rintro e w1 ⟨rfl,hb⟩
 replace H:=H.call hb
 clear hb y0 y1 y2 y3
 obtain⟨y0,y1,y2,y3⟩:=H.box2 0 rfl
 cases hc:cmdsOk cs
 ·clear hm
  have HF:Hid (mManB m cs LI=false):=hid (by rw[manB_eq,hc];simp)
  have HF2:Hid (mManH m cs LI=⟨[],[]⟩):=hid (by unfold mManH;rw[HF.out];rfl)
  have HZ:=(((H.putBox 0 rfl 0 (.slice none 0 0)).putBox 0 rfl 1 (.slice none 0 0)).noInts).noCells
  try simp only[lsz]at HZ
  obtain⟨z0,z1,-,-⟩:=HZ.box2 2 rfl
  have HS:Hid (MadeHBl w (mManH m cs LI) (mManB m cs LI) (.returned (.tuple #[.agg #[.slice none 0 0,.slice none 0 0],.bool false])) _):=hid (by rw[HF.out,HF2.out];exact⟨_,[],_,rfl,HZ.take 2⟩)
  clear HZ H
  go_wp2
  exact bodyPost_ret (by simp[results,Tryz.results8,go_sem,z0,z1]) rfl HS.out
 have HC:=hid hc
 clear hc
 go_wp2_with fail
 refine (isLimit_any LI _).mono ?_
 rintro e w2 ⟨rfl,hw⟩
 obtain rfl:=hw
 cases hl:inR LI 1 40
 ·clear hm
  have HF:Hid (mManB m cs LI=false):=hid (by rw[manB_eq,hl];simp)
  have HF2:Hid (mManH m cs LI=⟨[],[]⟩):=hid (by unfold mManH;rw[HF.out];rfl)
  have HZ:=(((H.putBox 0 rfl 0 (.slice none 0 0)).putBox 0 rfl 1 (.slice none 0 0)).noInts).noCells
  try simp only[lsz]at HZ
  obtain⟨z0,z1,-,-⟩:=HZ.box2 2 rfl
  have HS:Hid (MadeHBl w (mManH m cs LI) (mManB m cs LI) (.returned (.tuple #[.agg #[.slice none 0 0,.slice none 0 0],.bool false])) _):=hid (by rw[HF.out,HF2.out];exact⟨_,[],_,rfl,HZ.take 2⟩)
  clear HZ H
  go_wp2
  exact bodyPost_ret (by simp[results,Tryz.results8,go_sem,z0,z1]) rfl HS.out
 obtain⟨q1,q2⟩:=inR_iff.1 hl
 have HL:=hid hl
 clear hl y0 y1 y2 y3
 go_upto_region 4 with fail
 go_cut [9,10] (fun s8 s9 wx=>∃ (g:Nat) (T:Hp) (C R:Option Addr) (kC kR:Nat) (rvs:List Value),s8=.pointer (some ⟨g,0,none⟩)/\s9=.bool (inR m 1 7 && mManR m cs LI)/\Hid (inR m 1 7=true->T=mManX m cs LI)/\Owns w.heap.size w wx [.box g [.slice C T.cells.length kC,.slice R T.roots.length kR] 29,.cells (.slice C T.cells.length kC) rvs T.cells,.ints (.slice R T.roots.length kR) T.roots,.box w.heap.size [.slice none 0 0,.slice none 0 0] 29])
 case first =>
  obtain⟨p1,p2⟩:=inR_iff.1 hm
  rcases (show m=1\/m=2\/m=3\/m=4\/m=5\/m=6\/m=7 by omega) with rfl|rfl|rfl|rfl|rfl|rfl|rfl
  ·have HX:=hid (manX_1 HC.out LI)
   have HR:=hid (manR_1 cs LI)
   have hv:mv=.iface 93 (.agg #[]):=HV.out
   subst hv
   clear hm qn qg HV
   go_wp2_with fail
   refine (noneRun_any _ _ _ _ _ cs (hr.below H.below) LI).mono ?_
   rintro e w3 ⟨cv,rvs,rv,rfl,K⟩
   rw[<-HX.out]at K
   replace K:=H.merge K
   simp only[lca]at K
   generalize true=tb at *
   generalize mManX 1 cs LI=T at *
   obtain⟨C,kC,rfl,-⟩:=K.formC 0 rfl
   obtain⟨R,kR,rfl,-⟩:=K.formI 1 rfl
   have K2:=K.box [.slice C T.cells.length kC,.slice R T.roots.length kR] 29
   clear K H
   go_wp2_with fail
   go_meet
   exact⟨_,T,C,R,kC,kR,rvs,rfl,by rw[HR.out],hid (fun _=>rfl),K2⟩
  ·have HX:=hid (manX_2 HC.out LI)
   have HR:=hid (manR_2 cs LI)
   have hv:mv=.iface 94 (.agg #[]):=HV.out
   subst hv
   clear hm qn qg HV
   go_wp2_with fail
   refine (countsRun_any _ _ _ _ _ cs (hr.below H.below) HC.out LI).mono ?_
   rintro e w3 ⟨cv,rvs,rv,rfl,K⟩
   rw[<-HX.out]at K
   replace K:=H.merge K
   simp only[lca]at K
   generalize true=tb at *
   generalize mManX 2 cs LI=T at *
   obtain⟨C,kC,rfl,-⟩:=K.formC 0 rfl
   obtain⟨R,kR,rfl,-⟩:=K.formI 1 rfl
   have K2:=K.box [.slice C T.cells.length kC,.slice R T.roots.length kR] 29
   clear K H
   go_wp2_with fail
   go_meet
   exact⟨_,T,C,R,kC,kR,rvs,rfl,by rw[HR.out],hid (fun _=>rfl),K2⟩
  ·have HX:=hid (manX_3 HC.out LI)
   have HR:=hid (manR_3 cs LI)
   have hv:mv=.iface 95 (.agg #[]):=HV.out
   subst hv
   clear hm qn qg HV
   go_wp2_with fail
   refine (sweepRun_any _ _ _ _ _ cs (hr.below H.below) LI).mono ?_
   rintro e w3 ⟨cv,rvs,rv,rfl,K⟩
   rw[<-HX.out]at K
   replace K:=H.merge K
   simp only[lca]at K
   generalize mRunSwB cs LI=tb at *
   generalize mManX 3 cs LI=T at *
   obtain⟨C,kC,rfl,-⟩:=K.formC 0 rfl
   obtain⟨R,kR,rfl,-⟩:=K.formI 1 rfl
   have K2:=K.box [.slice C T.cells.length kC,.slice R T.roots.length kR] 29
   clear K H
   go_wp2_with fail
   go_meet
   exact⟨_,T,C,R,kC,kR,rvs,rfl,by rw[HR.out],hid (fun _=>rfl),K2⟩
  ·have HX:=hid (manX_4 HC.out LI)
   have HR:=hid (manR_4 cs LI)
   have hv:mv=.iface 96 (.agg #[]):=HV.out
   subst hv
   clear hm qn qg HV
   go_wp2_with fail
   refine (copyRun_any _ _ _ _ _ cs (hr.below H.below) LI).mono ?_
   rintro e w3 ⟨cv,rvs,rv,rfl,K⟩
   rw[<-HX.out]at K
   replace K:=H.merge K
   simp only[lca]at K
   generalize mRunCpB mCopy cs LI=tb at *
   generalize mManX 4 cs LI=T at *
   obtain⟨C,kC,rfl,-⟩:=K.formC 0 rfl
   obtain⟨R,kR,rfl,-⟩:=K.formI 1 rfl
   have K2:=K.box [.slice C T.cells.length kC,.slice R T.roots.length kR] 29
   clear K H
   go_wp2_with fail
   go_meet
   exact⟨_,T,C,R,kC,kR,rvs,rfl,by rw[HR.out],hid (fun _=>rfl),K2⟩
  ·have HX:=hid (manX_5 HC.out LI)
   have HR:=hid (manR_5 cs LI)
   have hv:mv=.iface 97 (.agg #[]):=HV.out
   subst hv
   clear hm qn qg HV
   go_wp2_with fail
   refine (slideRun_any _ _ _ _ _ cs (hr.below H.below) LI).mono ?_
   rintro e w3 ⟨cv,rvs,rv,rfl,K⟩
   rw[<-HX.out]at K
   replace K:=H.merge K
   simp only[lca]at K
   generalize mRunCpB mSlide cs LI=tb at *
   generalize mManX 5 cs LI=T at *
   obtain⟨C,kC,rfl,-⟩:=K.formC 0 rfl
   obtain⟨R,kR,rfl,-⟩:=K.formI 1 rfl
   have K2:=K.box [.slice C T.cells.length kC,.slice R T.roots.length kR] 29
   clear K H
   go_wp2_with fail
   go_meet
   exact⟨_,T,C,R,kC,kR,rvs,rfl,by rw[HR.out],hid (fun _=>rfl),K2⟩
  ·have HX:=hid (manX_6 HC.out LI)
   have HR:=hid (manR_6 cs LI)
   have hv:mv=.iface 98 (.agg #[]):=HV.out
   subst hv
   clear hm qn qg HV
   go_wp2_with fail
   refine (agedRun_any _ _ _ _ _ cs (hr.below H.below) HC.out LI q1 q2).mono ?_
   rintro e w3 ⟨cv,rvs,rv,rfl,K⟩
   rw[<-HX.out]at K
   replace K:=H.merge K
   simp only[lca]at K
   generalize true=tb at *
   generalize mManX 6 cs LI=T at *
   obtain⟨C,kC,rfl,-⟩:=K.formC 0 rfl
   obtain⟨R,kR,rfl,-⟩:=K.formI 1 rfl
   have K2:=K.box [.slice C T.cells.length kC,.slice R T.roots.length kR] 29
   clear K H
   go_wp2_with fail
   go_meet
   exact⟨_,T,C,R,kC,kR,rvs,rfl,by rw[HR.out],hid (fun _=>rfl),K2⟩
  ·have HX:=hid (manX_7 HC.out LI)
   have HR:=hid (manR_7 cs LI)
   have hv:mv=.iface 99 (.agg #[]):=HV.out
   subst hv
   clear hm qn qg HV
   go_wp2_with fail
   refine (paintRun_any _ _ _ _ _ cs (hr.below H.below) HC.out LI).mono ?_
   rintro e w3 ⟨cv,rvs,rv,rfl,K⟩
   rw[<-HX.out]at K
   replace K:=H.merge K
   simp only[lca]at K
   generalize true=tb at *
   generalize mManX 7 cs LI=T at *
   obtain⟨C,kC,rfl,-⟩:=K.formC 0 rfl
   obtain⟨R,kR,rfl,-⟩:=K.formI 1 rfl
   have K2:=K.box [.slice C T.cells.length kC,.slice R T.roots.length kR] 29
   clear K H
   go_wp2_with fail
   go_meet
   exact⟨_,T,C,R,kC,kR,rvs,rfl,by rw[HR.out],hid (fun _=>rfl),K2⟩
 case rest =>
  clear H hm qn qg HV
  obtain⟨g,T,C,R,kC,kR,rvs,rfl,rfl,HT,H⟩:=hcut
  obtain⟨y0,y1,-,-⟩:=H.box2 0 rfl
  obtain⟨x0,x1,x2,x3⟩:=H.box2 3 rfl
  have HB:Hid (mManB m cs LI=(inR m 1 7 && mManR m cs LI)):=hid (by rw[manB_eq,HC.out,HL.out];simp)
  cases hb:(inR m 1 7 && mManR m cs LI)
  ·rw[hb]at HB
   have HF2:Hid (mManH m cs LI=⟨[],[]⟩):=hid (by unfold mManH;rw[HB.out];rfl)
   have HZ:=(((H.putBox 3 rfl 0 (.slice none 0 0)).putBox 3 rfl 1 (.slice none 0 0)).noInts).noCells
   simp only[lnm]at HZ
   obtain⟨z0,z1,-,-⟩:=HZ.box2 5 rfl
   have HS:Hid (MadeHBl w (mManH m cs LI) (mManB m cs LI) (.returned (.tuple #[.agg #[.slice none 0 0,.slice none 0 0],.bool false])) _):=hid (by rw[HB.out,HF2.out];exact⟨_,[],_,rfl,HZ.take 2⟩)
   clear HZ H HT hb
   go_wp2
   exact bodyPost_ret (by simp[results,Tryz.results8,go_sem,z0,z1]) rfl HS.out
  ·rw[hb]at HB
   have HF2:Hid (mManH m cs LI=T):=hid (by
    unfold mManH
    rw[HB.out,if_pos rfl]
    simp only[Bool.and_eq_true]at hb
    exact (HT.out hb.1).symm)
   have HZ:=(H.putBox 3 rfl 0 (.slice C T.cells.length kC)).putBox 3 rfl 1 (.slice R T.roots.length kR)
   simp only[lsz]at HZ
   obtain⟨z0,z1,-,-⟩:=HZ.box2 3 rfl
   have HS:Hid (MadeHBl w (mManH m cs LI) (mManB m cs LI) (.returned (.tuple #[.agg #[.slice C T.cells.length kC,.slice R T.roots.length kR],.bool true])) _):=hid (by rw[HB.out,HF2.out];exact⟨_,rvs,_,rfl,HZ.order [1,2] (by decide) rfl⟩)
   clear HZ H HT hb
   go_wp2
   exact bodyPost_ret (by simp[results,Tryz.results8,go_sem,z0,z1]) rfl HS.out
theorem fre_ok {h X:Hp}(h0:heapOk h=true) (f:Fre h X) (L:LeadX X.cells (allRefs X)):heapOk X=true:=by
 have g:=good_iff.1 h0
 obtain⟨g1,g2⟩:=heapOk_leads h0
 have lead:∀ r∈allRefs X,leadsB h.cells r=true->leadsB X.cells r=true:=fun r hr hl=>by
  rw[leadsB_iff]
  rcases leadsB_iff.1 hl with e|⟨e,-⟩
  ·exact .inl e
  ·rcases L r hr with q|⟨q1,-,q3⟩
   ·omega
   ·exact .inr ⟨q1,q3⟩
 rw[good_iff]
 refine⟨by rw[f.len];exact g.len,by rw[f.roots];exact g.roots,fun c hc=>?_,fun r hr=>lead r (List.mem_append_left _ hr) (g1 r (by rw[<-f.roots];exact hr))⟩
 obtain⟨j,hj,rfl⟩:=List.mem_iff_getElem.1 hc
 have hx:X.cells[j]?=some X.cells[j]:=List.getElem?_eq_getElem hj
 rcases f.at_ j (by rw[<-f.len];exact hj) with e|⟨e,-⟩
 ·rw[hx]at e
  have hm:=List.mem_of_getElem? e.symm
  rcases cellOk_iff.1 (g.cell _ hm) with⟨q1,q2,q3,q4,q5⟩|q
  ·refine cellOk_iff.2 (.inl ⟨q1,fun r hr=>lead r ?_ (q2 r hr),q3,q4,q5⟩)
   exact List.mem_append_right _ (List.mem_flatMap.2 ⟨_,hc,hr⟩)
  ·exact cellOk_iff.2 (.inr q)
 ·rw[hx]at e
  injection e with e
  rw[e]
  exact cellOk_iff.2 (.inr ⟨rfl,rfl,rfl⟩)
def LastZ (X:Hp) (k:Nat) (a:Int):Prop:=(a=-1/\∀ i,i<k->usedN X.cells i=true->(i:Int)∈allRefs X)\/∃ q:Nat,a=q/\q<X.cells.length/\usedN X.cells q=true/\(q:Int) ∉ allRefs X
set_option maxHeartbeats 3200000 in
set_option maxRecDepth 20000 in
theorem l10Free_any (w:World) (B:Nat) (v:Value) (h:Hp) (hh:RdH w B v h) (hok:heapOk h=true):
  Calls Tryz.prog 91 #[v] w (MadeCt w (mUncount h)):=by
 have hh':=hh.top
 obtain⟨D,m,d,D',m',d',rfl,-,-⟩:=hh.top
 have HOk:=hid hok
 have HLd:=hid (lead_start hok)
 obtain⟨s4,s5⟩:=heapOk_small hok
 replace s5:=Nat.le_of_eq s5
 have HN3:Hid (∀ c∈h.cells,c.refs.length<=1048576):=hid fun c hc=>by
  obtain⟨j,hj,rfl⟩:=List.mem_iff_getElem.1 hc
  have:=(refs3 hok (List.getElem?_eq_getElem hj)).1
  omega
 have H:=((Owns.nil w).box [.slice D m d,.slice D' m' d'] 29).box [.slice none 0 0,.slice none 0 0,.slice none 0 0] 60
 simp only[lnm]at H
 obtain⟨a0,a1,-,-⟩:=H.box2 1 rfl
 clear hok
 go_enter Tryz.func91,Tryz.ntmps91
 go_wp2_with fail
 refine (l7Copy_any _ _ _ h (hh'.below H.below) (by omega) (by omega) HN3.out).mono ?_
 rintro e w1 ⟨v1,rfl,ho,hb⟩
 obtain⟨cv,rvs,rv,rfl,K⟩:=H.madeH ho hb
 obtain⟨C,kC,rfl,-⟩:=K.formC 0 rfl
 obtain⟨R,kR,rfl,-⟩:=K.formI 1 rfl
 have H2:=(K.box [.slice C h.cells.length kC,.slice R h.roots.length kR] 29).take 4
 simp only[List.take_succ_cons,List.take_zero]at H2
 clear H K ho hb a0 a1 HN3
 go_wp2_with fail
 go_loopg [] (usedC h.cells) (fun gk wr=>∃ (X:Hp) (rvs:List Value),gk=usedC X.cells/\Hid (Fre h X)/\Hid (LeadX X.cells (allRefs X))/\Owns w.heap.size w wr [.box w1.heap.size [.slice C h.cells.length kC,.slice R h.roots.length kR] 29,.cells (.slice C h.cells.length kC) rvs X.cells,.ints (.slice R h.roots.length kR) X.roots,.box (w.heap.size+1) [.slice none 0 0,.slice none 0 0,.slice none 0 0] 60])
 case atStart=>exact⟨h,rvs,rfl,hid (Fre.start h),HLd,H2⟩
 case round =>
  clear H2
  obtain⟨X,rvs,rfl,HF,HLX,H⟩:=hrel
  have HXo:=hid (fre_ok HOk.out HF.out HLX.out)
  have hle1:X.cells.length<=h.cells.length:=by rw[HF.out.len];exact Nat.le_refl _
  have hle2:h.cells.length<=X.cells.length:=by rw[HF.out.len];exact Nat.le_refl _
  obtain⟨x0,x1,-,-⟩:=H.box2 0 rfl
  go_wp2_with fail
  refine (l7Counts_any _ _ _ X (H.rdH 1 2 rfl rfl) HXo.out).mono ?_
  rintro e w2 ⟨nv,rfl,ho,hb⟩
  have H3:=H.madeI ho hb
  obtain⟨N,hN⟩:∃ N,N=mCounts X:=⟨_,rfl⟩
  rw[<-hN]at H3
  have hNl:X.cells.length<=N.length:=by rw[hN,mCounts_len];exact Nat.le_refl _
  have HN:=hid hN
  obtain⟨V,kV,rfl,-⟩:=H3.formI 0 rfl
  clear H ho hb hN x0 x1
  go_wp2_with fail
  go_loopw [5,6] (fun v5 i ws=>∃ (k:Nat) (a:Int),i=.int .i64 k/\k<=h.cells.length/\v5=.int .i64 a/\Hid (LastZ X k a)/\Owns w.heap.size w ws [.ints (.slice V N.length kV) N,.box w1.heap.size [.slice C h.cells.length kC,.slice R h.roots.length kR] 29,.cells (.slice C h.cells.length kC) rvs X.cells,.ints (.slice R h.roots.length kR) X.roots,.box (w.heap.size+1) [.slice none 0 0,.slice none 0 0,.slice none 0 0] 60]) (fun _ i _=>h.cells.length - (intOf i).toNat)
  case atStart=>exact⟨0,-1,rfl,Nat.zero_le _,rfl,hid (.inl ⟨rfl,fun i hi=>by omega⟩),H3⟩
  case round =>
   clear H3
   obtain⟨k,a,rfl,hk,rfl,HZ,H⟩:=hrel
   obtain⟨x0,x1,-,-⟩:=H.box2 1 rfl
   by_cases hlt:k<h.cells.length
   ·obtain⟨x,hx⟩:∃ x,Hid (N[k]?=some x):=⟨_,hid (List.getElem?_eq_getElem (by omega))⟩
    have HY:Hid (x=0 ↔ (k:Int) ∉ allRefs X):=hid (mCounts_zero (by rw[<-HN.out];exact hx.out))
    obtain⟨l,hl⟩:∃ l,Hid (X.cells[k]?=some l):=⟨_,hid (List.getElem?_eq_getElem (by omega))⟩
    have hu:=usedN_at hl
    obtain⟨b,ob,rfl,hbb,y0⟩:=((H.owI 0 rfl).rdI).rd (by omega)
    have y1:=y0 k (.int .i64 x) (by rw[List.getElem?_map,hx.out];rfl)
    obtain⟨gC,cC,A2,c2,e,-,z0,z1,z2,-⟩:=H.cellW 2 rfl hl
    simp only[Value.slice.injEq]at e
    obtain⟨rfl,-,rfl⟩:=e
    clear y0
    cases hlu:l.used
    ·rw[hlu]at hu z0
     have HZ2:Hid (LastZ X (k+1) a):=hid (by
      rcases HZ.out with⟨e1,e2⟩|e
      ·refine .inl ⟨e1,fun i hi hiu=>?_⟩
       by_cases e3:i=k
       ·rw[e3,hu]at hiu;cases hiu
       ·exact e2 i (by omega) hiu
      ·exact .inr e)
     clear hu hlu
     go_wp2
     go_roundw
     case rel=>exact⟨k+1,a,by go_num,by omega,rfl,HZ2,H⟩
     case measure=>simp[intOf];omega
    ·rw[hlu]at hu z0
     by_cases hz:x=0
     ·have k1:(x == 0)=true:=by simp[hz]
      have HZ2:Hid (LastZ X (k+1) (k:Int)):=hid (.inr ⟨k,rfl,by omega,hu,HY.out.1 hz⟩)
      clear hu hlu hz
      go_wp2
      go_roundw
      case rel=>exact⟨k+1,k,by go_num,by omega,rfl,HZ2,H⟩
      case measure=>simp[intOf];omega
     ·have k1:(x == 0)=false:=by simp[hz]
      have HZ2:Hid (LastZ X (k+1) a):=hid (by
       rcases HZ.out with⟨e1,e2⟩|e
       ·refine .inl ⟨e1,fun i hi hiu=>?_⟩
        by_cases e3:i=k
        ·rw[e3];exact Classical.byContradiction fun hn=>hz (HY.out.2 hn)
        ·exact e2 i (by omega) hiu
       ·exact .inr e)
      clear hu hlu hz
      go_wp2
      go_roundw
      case rel=>exact⟨k+1,a,by go_num,by omega,rfl,HZ2,H⟩
      case measure=>simp[intOf];omega
   ·rcases HZ.out with⟨rfl,e2⟩|⟨q,rfl,hq1,hq2,hq3⟩
    ·have HE:Hid (X=mUncount h):=hid (HF.out.fin HOk.out fun k hu=>held_iff.2 (e2 k (by have:=usedN_lt hu;omega) hu))
     have hNE:N.length<=(mCounts X).length:=by rw[HN.out];exact Nat.le_refl _
     obtain⟨y0,y1,y2,y3,y4,y5⟩:=H.box3 4 rfl
     have HW:=((H.putBox 4 rfl 0 (.slice C h.cells.length kC)).putBox 4 rfl 1 (.slice R h.roots.length kR)).putBox 4 rfl 2 (.slice V N.length kV)
     simp only[lnm]at HW
     obtain⟨z0,z1,z2,-,-,-⟩:=HW.box3 4 rfl
     have HS:Hid (MadeCt w (mUncount h) (.returned (.agg #[.slice C h.cells.length kC,.slice R h.roots.length kR,.slice V N.length kV])) _):=hid (by rw[<-HE.out,];exact⟨_,rvs,_,_,rfl,by rw[<-HN.out];exact HW.order [2,3,0] (by decide) rfl⟩)
     clear H HW HZ e2
     go_wp2
     exact bodyPost_ret (by simp[results,Tryz.results91,go_sem,z0,z1,z2]) rfl HS.out
    ·obtain⟨l,hl⟩:∃ l,Hid (X.cells[q]?=some l):=⟨_,hid (List.getElem?_eq_getElem hq1)⟩
     obtain⟨gC,cC,A2,c2,e,-,z0,z1,z2,f0,f1,f2,-⟩:=H.cellW 2 rfl hl
     simp only[Value.slice.injEq]at e
     obtain⟨rfl,-,rfl⟩:=e
     have HW:=(H.wipe 2 rfl (by rw[HF.out.len]) q hq1).order [1,2,3,4] (L':=[.box w1.heap.size [.slice (some ⟨gC,0,none⟩) h.cells.length kC,.slice R h.roots.length kR] 29,.cells (.slice (some ⟨gC,0,none⟩) h.cells.length kC) (rvs.set q (.slice none 0 0)) (X.cells.set q noCel),.ints (.slice R h.roots.length kR) X.roots,.box (w.heap.size+1) [.slice none 0 0,.slice none 0 0,.slice none 0 0] 60]) (by decide) rfl
     obtain⟨X',hX'⟩:∃ X':Hp,X'=⟨X.cells.set q noCel,X.roots⟩:=⟨_,rfl⟩
     have HF':Hid (Fre h X'):=hid (by rw[hX'];exact fre_free HF.out hq3)
     have HLX':Hid (LeadX X'.cells (allRefs X')):=hid (by rw[hX'];exact fun x hx=>lead_freed hl.out hq3 HLX.out x (List.mem_append_right _ hx))
     have hus:usedC X'.cells+1=usedC X.cells:=by rw[hX'];exact usedC_set X.cells q hq2
     have e1:X.cells.set q noCel=X'.cells:=by rw[hX']
     have e2:X.roots=X'.roots:=by rw[hX']
     rw[e1,e2]at HW
     have i3:(0:Int)<=(q:Int):=by omega
     have i4:(q:Int)<(h.cells.length:Int):=by omega
     generalize rvs.set q (.slice none 0 0)=rvs' at HW
     have HO:=hid HW
     clear hX' e1 e2 H HW HZ hq1 hq2 hq3
     go_wp2
     go_roundg (usedC X'.cells)
     case measure=>omega
     case rel=>exact⟨X',rvs',rfl,HF',HLX',HO.out⟩
set_option maxHeartbeats 3200000 in
set_option maxRecDepth 20000 in
theorem specCountedValid_yes (w:World) (B:Nat) (v:Value) (h:Hp) (hh:RdCt w B v h) (hok:heapOk h=true):
  Calls Tryz.prog 89 #[v] w fun e w'=>e=.returned (.bool true)/\Below w.heap.size w w':=by
 obtain⟨D,m,d,D',m',d',E,q,f,rfl,hC,hR,hE⟩:=hh.top
 have HOk:=hid hok
 have hst:RdH w w.heap.size (.agg #[.slice D m d,.slice D' m' d']) h:=⟨_,_,_,_,_,_,rfl,hC,hR⟩
 have H:=(Owns.nil w).box [.slice D m d,.slice D' m' d',.slice E q f] 60
 obtain⟨a0,a1,a2,-,-,-⟩:=H.box3 0 rfl
 obtain⟨s4,-⟩:=heapOk_small hok
 clear hok
 go_enter Tryz.func89,Tryz.ntmps89
 go_wp2_with fail
 refine (specRefCounts_yes _ _ _ h (hst.below H.below) HOk.out).mono ?_
 rintro e w1 ⟨nv,rfl,ho,hb⟩
 have H2:=H.madeI ho hb
 obtain⟨N,hN⟩:∃ N,N=mCounts h:=⟨_,rfl⟩
 rw[<-hN]at H2 hE
 have l1:=RdI.le1 hE;have l2:=RdI.le2 hE
 have hNl:N.length<=h.cells.length:=by rw[hN,mCounts_len];exact Nat.le_refl _
 obtain⟨V,kV,rfl,-⟩:=H2.formI 0 rfl
 clear H ho hb hN a0 a1 a2
 obtain⟨a0,a1,a2,-,-,-⟩:=H2.box3 1 rfl
 have e1:(N.length:Int)=(q:Int):=by omega
 go_wp2_with fail
 clear a0 a1 a2
 go_loopw [4] (fun i wr=>∃ k:Nat,i=.int .i64 k/\k<=N.length/\Owns w.heap.size w wr [.ints (.slice V N.length kV) N,.box w.heap.size [.slice D m d,.slice D' m' d',.slice E q f] 60]) (fun i _=>N.length - (intOf i).toNat)
 case atStart=>exact⟨0,rfl,Nat.zero_le _,H2⟩
 case round =>
  clear H2
  obtain⟨k,rfl,hk,H⟩:=hrel
  obtain⟨a0,a1,a2,-,-,-⟩:=H.box3 1 rfl
  by_cases hlt:k<N.length
  ·obtain⟨x,hx⟩:∃ x,Hid (N[k]?=some x):=⟨_,hid (List.getElem?_eq_getElem hlt)⟩
   obtain⟨b,ob,rfl,hbb,y0⟩:=((H.owI 0 rfl).rdI).rd (by omega)
   have y1:=y0 k (.int .i64 x) (by rw[List.getElem?_map,hx.out];rfl)
   obtain⟨b2,o2,x2,rfl,hbb2,hx2,p1⟩:=RdI.at_ hE (show k<q by omega)
   have hxx:x2=x:=by have h1:=hx2.out;rw[hx.out]at h1;injection h1 with h1;exact h1.symm
   subst hxx
   have g1:=H.ro p1 hbb2
   clear y0 p1
   go_wp2_with fail
   have HX:=H.drew
   have x0:wr.drew.cell? ⟨w.heap.size,2,none⟩=some (.slice (some ⟨b2,o2,none⟩) q f):=a2
   have x1:wr.drew.cell? ⟨b,ob+k,none⟩=some (.int .i64 x2):=y1
   have x3:wr.drew.cell? ⟨b2,o2+k,none⟩=some (.int .i64 x2):=g1
   clear H a0 a1 a2 y1 g1
   refine wp_region_tree (fun w'=>w'.cell? ⟨w.heap.size,2,none⟩=some (.slice (some ⟨b2,o2,none⟩) q f)/\w'.cell? ⟨b,ob+k,none⟩=some (.int .i64 x2)/\w'.cell? ⟨b2,o2+k,none⟩=some (.int .i64 x2)) 10 [] (.take 0 (.take 1 (.take 2 (.take 3 (.take 4 (.take 5 (.take 6 (.take 7 (.take 8 (.take 9 (.done))))))))))) (by kernel_rfl) (by kernel_rfl) (by kernel_rfl) (⟨x0,x1,x3⟩) ?_
   simp only[fillT,lgz,Nat.reduceBEq]
   repeat first|(with_reducible apply po_take;(·(go_simp;done));(·(intro w' hS';(try dsimp only at hS');go_simp;try with_reducible rfl));simp only[lpa])|(with_reducible apply po_skip;(·(go_simp;done));simp only[lpa])
   refine po_done ?_
   clear x0 x1 x3
   go_wp2
   go_roundw
   case rel=>exact⟨k+1,by go_num,by omega,HX⟩
   case measure=>simp[intOf];omega
  ·go_wp2_with fail
   refine (specHeapValid_any _ _ _ h (hst.below H.below)).mono ?_
   rintro e w3 ⟨rfl,hb⟩
   rw[HOk.out]
   have HB:=(H.call hb).below
   clear H hb a0 a1 a2
   go_wp2
   go_ret
   exact⟨rfl,HB⟩
set_option maxHeartbeats 6400000 in
set_option maxRecDepth 20000 in
theorem specStepCounted_any (w:World) (B:Nat) (v:Value) (h:Hp) (hh:RdCt w B v h) (o:Cmd) (g:Good h) (hc:cmdOk o=true):
  Calls Tryz.prog 63 #[v,cmdV o] w (MadeCtB w (stepCt h o)):=by
 have hh':=hh.top
 obtain⟨D,m,d,D',m',d',E,q,f,rfl,hC,hR,hE⟩:=hh.top
 have GG:=hid g
 have HCo:=hid hc
 have hst:RdH w w.heap.size (.agg #[.slice D m d,.slice D' m' d']) h:=⟨_,_,_,_,_,_,rfl,hC,hR⟩
 have HV:=hid (mPoss_yes (good_iff.2 g) hc)
 obtain⟨s4,s5⟩:=heapOk_small (good_iff.2 g)
 replace s5:=Nat.le_of_eq s5
 have hfl:=mFree_le h
 have l1:=RdI.le1 hE
 have hNl:(mCounts h).length<=40:=by rw[mCounts_len];exact s4
 have HN3:Hid (∀ c∈h.cells,c.refs.length<=1048576):=hid fun c hc=>by
  obtain⟨j,hj,rfl⟩:=List.mem_iff_getElem.1 hc
  have:=(refs3 (good_iff.2 g) (List.getElem?_eq_getElem hj)).1
  omega
 have H:=(((Owns.nil w).box [.slice D m d,.slice D' m' d',.slice E q f] 60).box [.int .i64 o.op,.int .i64 o.a,.int .i64 o.b,.int .i64 o.c] 79).box [.slice none 0 0,.slice none 0 0,.slice none 0 0] 60
 simp only[lnm]at H
 obtain⟨a0,a1,a2,-,-,-⟩:=H.box3 2 rfl
 clear g hc
 go_enter Tryz.func63,Tryz.ntmps63
 go_wp2_with fail
 refine (specCountedValid_yes _ _ _ h (hh'.below H.below) (good_iff.2 GG.out)).mono ?_
 rintro e w1 ⟨rfl,hb⟩
 replace H:=H.call hb
 clear hb a0 a1 a2
 obtain⟨b0,b1,b2,b3,-,-,-,-⟩:=box4 H 1 rfl
 go_wp2_with fail
 refine (specCommandValid_any o _).mono ?_
 rintro e w2 ⟨rfl,hb⟩
 rw[HCo.out]
 replace H:=H.call hb
 clear hb b0 b1 b2 b3
 obtain⟨a0,a1,a2,-,-,-⟩:=H.box3 2 rfl
 go_wp2_with fail
 refine (l10Place_any _ _ _ h (hst.below H.below) (by omega)).mono ?_
 rintro e w3 ⟨rfl,hb⟩
 replace H:=H.call hb
 clear hb a0 a1 a2
 obtain⟨p,hp⟩:∃ p,p=mFree h:=⟨_,rfl⟩
 rw[<-hp]at hfl⊢
 have HPf:=hid hp
 clear hp
 go_upto_region 4 with fail
 go_cut [32] (fun s wx=>s=.bool (!canB h o)/\Owns w.heap.size w wx [.box (w.heap.size+2) [.slice none 0 0,.slice none 0 0,.slice none 0 0] 60,.box (w.heap.size+1) [.int .i64 o.op,.int .i64 o.a,.int .i64 o.b,.int .i64 o.c] 79,.box w.heap.size [.slice D m d,.slice D' m' d',.slice E q f] 60])
 case first =>
  obtain⟨a0,a1,a2,-,-,-⟩:=H.box3 2 rfl
  obtain⟨b0,b1,b2,b3,-,-,-,-⟩:=box4 H 1 rfl
  go_wp2_with fail
  refine (specPossible_any _ _ _ h (hst.below H.below) o).mono ?_
  rintro e w4 ⟨rfl,hb⟩
  rw[HV.out]
  replace H:=H.call hb
  clear hb a0 a1 a2 b0 b1 b2 b3
  obtain⟨b0,b1,b2,b3,-,-,-,-⟩:=box4 H 1 rfl
  have hU:undef=Value.tuple #[]:=rfl
  cases hps:possB h o
  ·have HF:Hid (canB h o=false):=hid (by simp[canB,hps])
   clear hps
   go_wp2
   go_meet
   exact⟨by rw[HF.out];rfl,H⟩
  by_cases h1:o.op=1
  ·have k1:(o.op == 1)=true:=by simp[h1]
   by_cases hf:p=40
   ·have HF:Hid (canB h o=false):=hid (by simp[canB,hps,h1];rw[<-HPf.out];omega)
    have k2:((p:Int) == 40)=true:=by simp[hf]
    clear hps h1 hf
    go_wp2
    go_meet
    exact⟨by rw[HF.out];rfl,H⟩
   ·have HF:Hid (canB h o=true):=hid (by simp[canB,hps,h1];rw[<-HPf.out];omega)
    have k2:((p:Int) == 40)=false:=by simp;omega
    clear hps h1 hf
    go_wp2
    go_meet
    exact⟨by rw[HF.out];rfl,H⟩
  ·have k1:(o.op == 1)=false:=by simp[h1]
   have HF:Hid (canB h o=true):=hid (by simp[canB,hps,h1])
   clear hps h1
   go_wp2
   go_meet
   exact⟨by rw[HF.out];rfl,H⟩
 case rest =>
  obtain⟨rfl,HC⟩:=hcut
  clear H
  have HS:=hid (stepCt_can h o)
  cases hb:canB h o
  ·rw[hb]at HS
   have HT:Hid (stepCt h o=h):=HS
   clear hb HS
   go_wp2_with fail
   have HX:=HC.drew
   clear HC
   obtain⟨x0,x1,x2,-,-,-⟩:=HX.box3 2 rfl
   refine wp_region_tree (fun w'=>w'.cell? ⟨w.heap.size,0,none⟩=some (.slice D m d)/\w'.cell? ⟨w.heap.size,1,none⟩=some (.slice D' m' d')/\w'.cell? ⟨w.heap.size,2,none⟩=some (.slice E q f)) 10 [] (.take 0 (.take 1 (.take 4 (.take 5 (.alt 2 (.alt 3 (.alt 6 (.take 7 (.alt 8 (.take 9 (.done)) (.stop))) (.stop)) (.stop)) (.alt 3 (.alt 2 (.alt 6 (.take 7 (.alt 8 (.take 9 (.done)) (.stop))) (.stop)) (.stop)) (.stop))))))) (by kernel_rfl) (by kernel_rfl) (by kernel_rfl) (⟨x0,x1,x2⟩) ?_
   simp only[fillT,lgz,Nat.reduceBEq]
   repeat first|(with_reducible apply po_take;(·(go_simp;done));(·(intro w' hS';(try dsimp only at hS');go_simp;try with_reducible rfl));simp only[lpa])|(with_reducible apply po_skip;(·(go_simp;done));simp only[lpa])
   with_reducible refine po_run ?_ (fun K hK=>?_) ?_
   ·(go_simp;done)
   ·
    go_simp
    refine (l7Copy_any _ _ _ h (hst.below HX.below) (by omega) (by omega) HN3.out).mono ?_
    rintro e w4 ⟨v4,rfl,ho,hb⟩
    obtain⟨cv,rvs,rv,rfl,HY⟩:=HX.madeH ho hb
    obtain⟨C,kC,rfl,-⟩:=HY.formC 0 rfl
    obtain⟨R,kR,rfl,-⟩:=HY.formI 1 rfl
    replace x0:=keept x0 hb
    replace x1:=keept x1 hb
    replace x2:=keept x2 hb
    clear HX ho hb
    have HX:=HY
    clear HY
    refine hK.out _ _ (.inr (⟨x0,x1,x2⟩)) ?_
    clear hK K
    with_reducible refine po_last ?_ (fun K hK=>?_)
    ·(go_simp;done)
    go_simp
    replace HX:=HX.litI [] zero_le_maxLen
    replace x0:=keept x0 (below_alloc _ (.cells #[] 3))
    replace x1:=keept x1 (below_alloc _ (.cells #[] 3))
    replace x2:=keept x2 (below_alloc _ (.cells #[] 3))
    refine hK.out _ _ (.inr (⟨x0,x1,x2⟩)) ?_
    clear hK K
    with_reducible refine po_last ?_ (fun K hK=>?_)
    ·(go_simp;done)
    have HY:=HX
    refine wp_pushO (.tmp 36) (.tmp 38) rfl HY 0 rfl rfl rfl (hE.below HY.below) (by simp;omega) ?_
    intro A5 k5 w5 HZ
    simp only[lsz,List.nil_append]at HZ
    simp only[List.nil_append]
    clear HX HY x0 x1 x2
    obtain⟨x0,x1,x2,-,-,-⟩:=HZ.box3 5 rfl
    refine hK.out _ _ (.inr (⟨x0,x1,x2⟩)) ?_
    clear hK K
    repeat first|(with_reducible apply po_take;(·(go_simp;done));(·(intro w' hS';(try dsimp only at hS');go_simp;try with_reducible rfl));simp only[lpa])|(with_reducible apply po_skip;(·(go_simp;done));simp only[lpa])
    with_reducible refine po_last ?_ (fun K hK=>?_)
    ·(go_simp;done)
    obtain⟨y0,y1,y2,y3,y4,y5⟩:=HZ.box3 3 rfl
    go_simp
    have HW:=((HZ.putBox 3 rfl 0 (.slice C h.cells.length kC)).putBox 3 rfl 1 (.slice R h.roots.length kR)).putBox 3 rfl 2 (.slice A5 (mCounts h).length k5)
    simp only[lsz]at HW
    clear x0 x1 x2
    obtain⟨x0,x1,x2,-,-,-⟩:=HW.box3 5 rfl
    refine hK.out _ _ (.inr (⟨x0,x1,x2⟩)) ?_
    clear hK K
    repeat first|(with_reducible apply po_take;(·(go_simp;done));(·(intro w' hS';(try dsimp only at hS');go_simp;try with_reducible rfl));simp only[lpa])|(with_reducible apply po_skip;(·(go_simp;done));simp only[lpa])
    refine po_done ?_
    obtain⟨z0,z1,z2,-,-,-⟩:=HW.box3 3 rfl
    have HS:Hid (MadeCtB w (stepCt h o) (.returned (.tuple #[.agg #[.slice C h.cells.length kC,.slice R h.roots.length kR,.slice A5 (mCounts h).length k5],.bool false])) _):=hid (by rw[HT.out];exact⟨_,rvs,_,_,_,rfl,HW.order [1,2,0] (by decide) rfl⟩)
    clear HZ HW x0 x1 x2 y0 y1 y2 y3 y4 y5
    go_wp2
    exact bodyPost_ret (by simp[results,Tryz.results63,go_sem,z0,z1,z2]) rfl HS.out
   with_reducible refine po_last ?_ (fun K hK=>?_)
   ·(go_simp;done)
   go_simp
   replace HX:=HX.litI [] zero_le_maxLen
   replace x0:=keept x0 (below_alloc _ (.cells #[] 3))
   replace x1:=keept x1 (below_alloc _ (.cells #[] 3))
   replace x2:=keept x2 (below_alloc _ (.cells #[] 3))
   refine hK.out _ _ (.inr (⟨x0,x1,x2⟩)) ?_
   clear hK K
   with_reducible refine po_last ?_ (fun K hK=>?_)
   ·(go_simp;done)
   go_simp
   refine (l7Copy_any _ _ _ h (hst.below HX.below) (by omega) (by omega) HN3.out).mono ?_
   rintro e w4 ⟨v4,rfl,ho,hb⟩
   obtain⟨cv,rvs,rv,rfl,HY⟩:=HX.madeH ho hb
   obtain⟨C,kC,rfl,-⟩:=HY.formC 0 rfl
   obtain⟨R,kR,rfl,-⟩:=HY.formI 1 rfl
   replace x0:=keept x0 hb
   replace x1:=keept x1 hb
   replace x2:=keept x2 hb
   clear HX ho hb
   have HX:=HY
   clear HY
   refine hK.out _ _ (.inr (⟨x0,x1,x2⟩)) ?_
   clear hK K
   with_reducible refine po_last ?_ (fun K hK=>?_)
   ·(go_simp;done)
   have HY:=HX.places [2,0,1,3,4,5] (by decide) (by simp);simp only[lfm]at HY
   refine wp_pushO (.tmp 36) (.tmp 38) rfl HY 0 rfl rfl rfl (hE.below HY.below) (by simp;omega) ?_
   intro A5 k5 w5 HZ
   simp only[lsz,List.nil_append]at HZ
   simp only[List.nil_append]
   clear HX HY x0 x1 x2
   obtain⟨x0,x1,x2,-,-,-⟩:=HZ.box3 5 rfl
   refine hK.out _ _ (.inr (⟨x0,x1,x2⟩)) ?_
   clear hK K
   repeat first|(with_reducible apply po_take;(·(go_simp;done));(·(intro w' hS';(try dsimp only at hS');go_simp;try with_reducible rfl));simp only[lpa])|(with_reducible apply po_skip;(·(go_simp;done));simp only[lpa])
   with_reducible refine po_last ?_ (fun K hK=>?_)
   ·(go_simp;done)
   obtain⟨y0,y1,y2,y3,y4,y5⟩:=HZ.box3 3 rfl
   go_simp
   have HW:=((HZ.putBox 3 rfl 0 (.slice C h.cells.length kC)).putBox 3 rfl 1 (.slice R h.roots.length kR)).putBox 3 rfl 2 (.slice A5 (mCounts h).length k5)
   simp only[lsz]at HW
   clear x0 x1 x2
   obtain⟨x0,x1,x2,-,-,-⟩:=HW.box3 5 rfl
   refine hK.out _ _ (.inr (⟨x0,x1,x2⟩)) ?_
   clear hK K
   repeat first|(with_reducible apply po_take;(·(go_simp;done));(·(intro w' hS';(try dsimp only at hS');go_simp;try with_reducible rfl));simp only[lpa])|(with_reducible apply po_skip;(·(go_simp;done));simp only[lpa])
   refine po_done ?_
   obtain⟨z0,z1,z2,-,-,-⟩:=HW.box3 3 rfl
   have HS:Hid (MadeCtB w (stepCt h o) (.returned (.tuple #[.agg #[.slice C h.cells.length kC,.slice R h.roots.length kR,.slice A5 (mCounts h).length k5],.bool false])) _):=hid (by rw[HT.out];exact⟨_,rvs,_,_,_,rfl,HW.order [1,2,0] (by decide) rfl⟩)
   clear HZ HW x0 x1 x2 y0 y1 y2 y3 y4 y5
   go_wp2
   exact bodyPost_ret (by simp[results,Tryz.results63,go_sem,z0,z1,z2]) rfl HS.out
  ·rw[hb]at HS
   have HT:Hid (stepCt h o=mUncount (mDo h o (mFree h))):=HS
   have HD:=hid (can_good GG.out HCo.out hb)
   have HP:=hid (can_poss hb).1
   rw[<-HPf.out]at HT HD
   clear hb HS
   obtain⟨a0,a1,a2,-,-,-⟩:=HC.box3 2 rfl
   obtain⟨b0,b1,b2,b3,-,-,-,-⟩:=box4 HC 1 rfl
   go_wp2_with fail
   refine (l8Do_at _ _ _ h (hst.below HC.below) o GG.out HCo.out HP.out p hfl).mono ?_
   rintro e w5 ⟨cv,rvs,rv,rfl,K⟩
   replace K:=HC.merge K
   simp only[lca]at K
   obtain⟨T,hT⟩:∃ T,T=mDo h o p:=⟨_,rfl⟩
   rw[<-hT]at K HT HD
   clear hT HC a0 a1 a2 b0 b1 b2 b3
   go_wp2_with fail
   refine (l10Free_any _ _ _ T (K.rdH 0 1 rfl rfl) (good_iff.2 HD.out)).mono ?_
   rintro e w6 ⟨cv',rvs',rv',nv,rfl,K2⟩
   replace K2:=K.merge K2
   simp only[lca]at K2
   obtain⟨X,hX⟩:∃ X,X=mUncount T:=⟨_,rfl⟩
   rw[<-hX]at K2 HT
   clear hX K
   obtain⟨C,kC,rfl,-⟩:=K2.formC 0 rfl
   obtain⟨R,kR,rfl,-⟩:=K2.formI 1 rfl
   obtain⟨V,kV,rfl,-⟩:=K2.formI 2 rfl
   obtain⟨y0,y1,y2,y3,y4,y5⟩:=K2.box3 5 rfl
   have HZ:=((K2.putBox 5 rfl 0 (.slice C X.cells.length kC)).putBox 5 rfl 1 (.slice R X.roots.length kR)).putBox 5 rfl 2 (.slice V (mCounts X).length kV)
   simp only[lnm]at HZ
   obtain⟨z0,z1,z2,-,-,-⟩:=HZ.box3 5 rfl
   have HS:Hid (MadeCtB w (stepCt h o) (.returned (.tuple #[.agg #[.slice C X.cells.length kC,.slice R X.roots.length kR,.slice V (mCounts X).length kV],.bool true])) _):=hid (by rw[HT.out];exact⟨_,rvs',_,_,_,rfl,HZ.take 3⟩)
   clear HZ K2
   go_wp2
   exact bodyPost_ret (by simp[results,Tryz.results63,go_sem,z0,z1,z2]) rfl HS.out
set_option maxHeartbeats 6400000 in
set_option maxRecDepth 20000 in
theorem specRunCounted_any (w:World) (B:Nat) (A:Option Addr) (n c:Nat) (cs:List Cmd) (hr:RdQ w B A n c cs) (hok:cmdsOk cs=true):
  Calls Tryz.prog 34 #[.slice A n c] w (MadeCt w (mCt cs)):=by
 have hr:=hr.top
 obtain rfl:=hr.len
 have hm:=Nat.le_trans hr.cap hr.mx
 unfold maxLen at hm
 have H:=(Owns.nil w).box [.slice none 0 0,.slice none 0 0,.slice none 0 0] 60
 have HC:=hid hok
 have HA:=hid (cmdsOk_all hok)
 obtain⟨RR,hRR⟩:∃ r,r=counter.run 0 emptyH cs:=⟨_,rfl⟩
 have HF:Hid (mCt cs=RR):=hid (by unfold mCt;rw[if_pos hok,hRR])
 have HR0:Hid (counter.run 0 emptyH (cs.drop 0)=RR):=hid (by rw[hRR,List.drop_zero])
 clear hok hRR
 go_enter Tryz.func34,Tryz.ntmps34
 go_wp2_with fail
 refine (specCommandsValid_any _ _ _ _ _ cs (hr.below H.below)).mono ?_
 rintro e w1 ⟨rfl,hb⟩
 rw[HC.out]
 replace H:=H.call hb
 clear hb
 go_wp2_with fail
 refine (specEmptyHeap_any _).mono ?_
 rintro e w3 ⟨cv,rvs,rv,rfl,K⟩
 replace K:=H.merge K
 simp only[lca]at K
 obtain⟨C,kC,rfl,-⟩:=K.formC 0 rfl
 obtain⟨R,kR,rfl,-⟩:=K.formI 1 rfl
 clear H
 have K2:=K.litI [] zero_le_maxLen
 simp only[List.length_nil,List.map_nil]at K2
 have K3:=K2.box [.slice C emptyH.cells.length kC,.slice R emptyH.roots.length kR,.slice (some ⟨w3.heap.size,0,none⟩) 0 0] 60
 simp only[World.size_alloc]at K3
 have H3:=K3.order [0,2,3,1,4] (L':=[.box (w3.heap.size+1) [.slice C emptyH.cells.length kC,.slice R emptyH.roots.length kR,.slice (some ⟨w3.heap.size,0,none⟩) (mCounts emptyH).length 0] 60,.cells (.slice C emptyH.cells.length kC) rvs emptyH.cells,.ints (.slice R emptyH.roots.length kR) emptyH.roots,.ints (.slice (some ⟨w3.heap.size,0,none⟩) (mCounts emptyH).length 0) (mCounts emptyH),.box w.heap.size [.slice none 0 0,.slice none 0 0,.slice none 0 0] 60]) (by decide) rfl
 clear K3
 clear K K2
 go_wp2_with fail
 go_loopw [4] (fun i wr=>∃ (k:Nat) (C R V:Option Addr) (kC kR kV:Nat) (rvs:List Value) (h:Hp),i=.int .i64 k/\k<=cs.length/\Hid (counter.run k h (cs.drop k)=RR)/\Hid (Good h)/\Owns w.heap.size w wr [.box (w3.heap.size+1) [.slice C h.cells.length kC,.slice R h.roots.length kR,.slice V (mCounts h).length kV] 60,.cells (.slice C h.cells.length kC) rvs h.cells,.ints (.slice R h.roots.length kR) h.roots,.ints (.slice V (mCounts h).length kV) (mCounts h),.box w.heap.size [.slice none 0 0,.slice none 0 0,.slice none 0 0] 60]) (fun i _=>cs.length - (intOf i).toNat)
 case atStart=>exact⟨0,C,R,_,kC,kR,0,rvs,emptyH,rfl,Nat.zero_le _,HR0,hid emptyH_good,H3⟩
 case round =>
  clear H3 HR0
  obtain⟨k,C,R,V,kC,kR,kV,rvs,h,rfl,hk,HR,GG,H⟩:=hrel
  by_cases hlt:k<cs.length
  ·obtain⟨b,o,p,rfl,hbb,hx,q1,q2,q3,q4⟩:=hr.at_ hlt
   have HP:Hid (cmdOk p=true):=hid (HA.out p (List.mem_of_getElem? hx.out))
   have HE:Hid (counter.run (k+1) (stepCt h p) (cs.drop (k+1))=RR):=hid (by rw[<-HR.out,Manager.run_next hx];rfl)
   have HTG:Hid (Good (stepCt h p)):=hid (stepCt_good GG.out HP.out)
   clear HR
   go_wp2_with fail
   have HX:=H.drew
   clear H
   obtain⟨x0,x1,x2,-,-,-⟩:=HX.box3 0 rfl
   have g1:=HX.ro q1 hbb
   have g2:=HX.ro q2 hbb
   have g3:=HX.ro q3 hbb
   have g4:=HX.ro q4 hbb
   refine wp_region_tree (fun w'=>(w'.cell? ⟨w3.heap.size+1,0,none⟩=some (.slice C h.cells.length kC)/\w'.cell? ⟨w3.heap.size+1,1,none⟩=some (.slice R h.roots.length kR)/\w'.cell? ⟨w3.heap.size+1,2,none⟩=some (.slice V (mCounts h).length kV))/\w'.cell? ⟨b,o+k*4,none⟩=some (.int .i64 p.op)/\w'.cell? ⟨b,o+k*4+1,none⟩=some (.int .i64 p.a)/\w'.cell? ⟨b,o+k*4+2,none⟩=some (.int .i64 p.b)/\w'.cell? ⟨b,o+k*4+3,none⟩=some (.int .i64 p.c)) 12 [] (.take 0 (.take 1 (.take 2 (.take 3 (.take 4 (.alt 5 (.take 6 (.take 7 (.take 8 (.alt 9 (.alt 10 (.take 11 (.done)) (.stop)) (.stop))))) (.alt 9 (.alt 5 (.take 6 (.take 7 (.take 8 (.alt 10 (.take 11 (.done)) (.stop))))) (.stop)) (.stop)))))))) (by kernel_rfl) (by kernel_rfl) (by kernel_rfl) (⟨⟨x0,x1,x2⟩,g1,g2,g3,g4⟩) ?_
   simp only[fillT,lgz,Nat.reduceBEq]
   repeat first|(with_reducible apply po_take;(·(go_simp;done));(·(intro w' hS';(try dsimp only at hS');go_simp;try with_reducible rfl));simp only[lpa])|(with_reducible apply po_skip;(·(go_simp;done));simp only[lpa])
   with_reducible refine po_run ?_ (fun K hK=>?_) ?_
   ·(go_simp;done)
   ·
    go_simp
    refine (specStepCounted_any _ _ _ h (HX.rdCt 1 2 3 rfl rfl rfl) p GG.out HP.out).mono ?_
    rintro e wa ⟨cv,rvs',rv,nv,tb,rfl,K⟩
    replace K:=HX.merge K
    simp only[lca]at K
    obtain⟨T,hT⟩:∃ T,T=stepCt h p:=⟨_,rfl⟩
    rw[<-hT]at K HE HTG
    clear hT HX
    have HX:=K
    clear K
    obtain⟨C',kC',rfl,-⟩:=HX.formC 0 rfl
    obtain⟨R',kR',rfl,-⟩:=HX.formI 1 rfl
    obtain⟨V',kV',rfl,-⟩:=HX.formI 2 rfl
    clear x0 x1 x2 g1 g2 g3 g4
    obtain⟨x0,x1,x2,-,-,-⟩:=HX.box3 3 rfl
    have g1:=HX.ro q1 hbb
    have g2:=HX.ro q2 hbb
    have g3:=HX.ro q3 hbb
    have g4:=HX.ro q4 hbb
    refine hK.out _ _ (.inr (⟨⟨x0,x1,x2⟩,g1,g2,g3,g4⟩)) ?_
    clear hK K
    repeat first|(with_reducible apply po_take;(·(go_simp;done));(·(intro w' hS';(try dsimp only at hS');go_simp;try with_reducible rfl));simp only[lpa])|(with_reducible apply po_skip;(·(go_simp;done));simp only[lpa])
    with_reducible refine po_last ?_ (fun K hK=>?_)
    ·(go_simp;done)
    go_simp
    have HP9:=HX
    replace HX:=HX.box [.slice none 0 0,.slice none 0 0,.slice none 0 0] 60
    try simp only[drew_size]at HX
    clear x0 x1 x2 g1 g2 g3 g4
    obtain⟨x0,x1,x2,-,-,-⟩:=HX.box3 (1+3*1) rfl
    have g1:=HX.ro q1 hbb
    have g2:=HX.ro q2 hbb
    have g3:=HX.ro q3 hbb
    have g4:=HX.ro q4 hbb
    refine hK.out _ _ (.inr (⟨⟨x0,x1,x2⟩,g1,g2,g3,g4⟩)) ?_
    clear hK K
    with_reducible refine po_last ?_ (fun K hK=>?_)
    ·(go_simp;done)
    go_simp
    have HZ:=HP9.box [.slice C' T.cells.length kC',.slice R' T.roots.length kR',.slice V' (mCounts T).length kV'] 60
    have HY:=HZ.places [0,1,2,3,4,8] (by decide) (by simp);simp only[lfm]at HY
    clear x0 x1 x2 g1 g2 g3 g4 HX HZ HP9
    obtain⟨x0,x1,x2,-,-,-⟩:=HY.box3 4 rfl
    have g1:=HY.ro q1 hbb
    have g2:=HY.ro q2 hbb
    have g3:=HY.ro q3 hbb
    have g4:=HY.ro q4 hbb
    refine hK.out _ _ (.inr (⟨⟨x0,x1,x2⟩,g1,g2,g3,g4⟩)) ?_
    clear hK K
    clear x0 x1 x2 g1 g2 g3 g4
    repeat first|(with_reducible apply po_take;(·(go_simp;done));(·(intro w' hS';(try dsimp only at hS');go_simp;try with_reducible rfl));simp only[lpa])|(with_reducible apply po_skip;(·(go_simp;done));simp only[lpa])
    refine po_done ?_
    obtain⟨x0,x1,x2,x3,x4,x5⟩:=HY.box3 4 rfl
    obtain⟨n0,n1,n2,-,-,-⟩:=HY.box3 0 rfl
    have H7:=(((HY.putBox 4 rfl 0 (.slice C' T.cells.length kC')).putBox 4 rfl 1 (.slice R' T.roots.length kR')).putBox 4 rfl 2 (.slice V' (mCounts T).length kV')).places [4,1,2,3,5] (by decide) (by simp)
    simp only[lfm,lsz]at H7
    clear HY q1 q2 q3 q4
    go_wp2_with fail
    go_roundw
    case rel=>exact⟨k+1,C',R',V',kC',kR',kV',rvs',T,by go_num,by omega,HE,HTG,H7⟩
    case measure=>simp[intOf];omega
   with_reducible refine po_last ?_ (fun K hK=>?_)
   ·(go_simp;done)
   go_simp
   have HP9:=HX
   replace HX:=HX.box [.slice none 0 0,.slice none 0 0,.slice none 0 0] 60
   try simp only[drew_size]at HX
   clear x0 x1 x2 g1 g2 g3 g4
   obtain⟨x0,x1,x2,-,-,-⟩:=HX.box3 (1+3*0) rfl
   have g1:=HX.ro q1 hbb
   have g2:=HX.ro q2 hbb
   have g3:=HX.ro q3 hbb
   have g4:=HX.ro q4 hbb
   refine hK.out _ _ (.inr (⟨⟨x0,x1,x2⟩,g1,g2,g3,g4⟩)) ?_
   clear hK K
   with_reducible refine po_last ?_ (fun K hK=>?_)
   ·(go_simp;done)
   go_simp
   refine (specStepCounted_any _ _ _ h (HX.rdCt 2 3 4 rfl rfl rfl) p GG.out HP.out).mono ?_
   rintro e wa ⟨cv,rvs',rv,nv,tb,rfl,K⟩
   replace K:=HX.merge K
   simp only[lca]at K
   obtain⟨T,hT⟩:∃ T,T=stepCt h p:=⟨_,rfl⟩
   rw[<-hT]at K HE HTG
   clear hT HX
   have HX:=K
   clear K
   obtain⟨C',kC',rfl,-⟩:=HX.formC 0 rfl
   obtain⟨R',kR',rfl,-⟩:=HX.formI 1 rfl
   obtain⟨V',kV',rfl,-⟩:=HX.formI 2 rfl
   clear x0 x1 x2 g1 g2 g3 g4
   obtain⟨x0,x1,x2,-,-,-⟩:=HX.box3 4 rfl
   have g1:=HX.ro q1 hbb
   have g2:=HX.ro q2 hbb
   have g3:=HX.ro q3 hbb
   have g4:=HX.ro q4 hbb
   refine hK.out _ _ (.inr (⟨⟨x0,x1,x2⟩,g1,g2,g3,g4⟩)) ?_
   clear hK K
   repeat first|(with_reducible apply po_take;(·(go_simp;done));(·(intro w' hS';(try dsimp only at hS');go_simp;try with_reducible rfl));simp only[lpa])|(with_reducible apply po_skip;(·(go_simp;done));simp only[lpa])
   with_reducible refine po_last ?_ (fun K hK=>?_)
   ·(go_simp;done)
   obtain⟨e0,e1,e2,e3,e4,e5⟩:=HX.box3 3 rfl
   go_simp
   have HZ:=((HX.putBox 3 rfl 0 (.slice C' T.cells.length kC')).putBox 3 rfl 1 (.slice R' T.roots.length kR')).putBox 3 rfl 2 (.slice V' (mCounts T).length kV')
   have HY:=HZ.places [3,0,1,2,4,8] (by decide) (by simp);simp only[lfm,lsz]at HY
   clear x0 x1 x2 g1 g2 g3 g4 HX HZ HP9
   obtain⟨x0,x1,x2,-,-,-⟩:=HY.box3 4 rfl
   have g1:=HY.ro q1 hbb
   have g2:=HY.ro q2 hbb
   have g3:=HY.ro q3 hbb
   have g4:=HY.ro q4 hbb
   refine hK.out _ _ (.inr (⟨⟨x0,x1,x2⟩,g1,g2,g3,g4⟩)) ?_
   clear hK K
   clear x0 x1 x2 g1 g2 g3 g4
   repeat first|(with_reducible apply po_take;(·(go_simp;done));(·(intro w' hS';(try dsimp only at hS');go_simp;try with_reducible rfl));simp only[lpa])|(with_reducible apply po_skip;(·(go_simp;done));simp only[lpa])
   refine po_done ?_
   obtain⟨x0,x1,x2,x3,x4,x5⟩:=HY.box3 4 rfl
   obtain⟨n0,n1,n2,-,-,-⟩:=HY.box3 0 rfl
   have H7:=(((HY.putBox 4 rfl 0 (.slice C' T.cells.length kC')).putBox 4 rfl 1 (.slice R' T.roots.length kR')).putBox 4 rfl 2 (.slice V' (mCounts T).length kV')).places [4,1,2,3,5] (by decide) (by simp)
   simp only[lfm,lsz]at H7
   clear HY q1 q2 q3 q4
   go_wp2_with fail
   go_roundw
   case rel=>exact⟨k+1,C',R',V',kC',kR',kV',rvs',T,by go_num,by omega,HE,HTG,H7⟩
   case measure=>simp[intOf];omega
  ·have HE:Hid (RR=h):=hid (by rw[<-HR.out,Manager.run_out (by omega)])
   obtain⟨x0,x1,x2,-,-,-⟩:=H.box3 0 rfl
   obtain⟨y0,y1,y2,y3,y4,y5⟩:=H.box3 4 rfl
   have HZ:=((H.putBox 4 rfl 0 (.slice C h.cells.length kC)).putBox 4 rfl 1 (.slice R h.roots.length kR)).putBox 4 rfl 2 (.slice V (mCounts h).length kV)
   simp only[lnm]at HZ
   obtain⟨z0,z1,z2,-,-,-⟩:=HZ.box3 4 rfl
   have HS:Hid (MadeCt w (mCt cs) (.returned (.agg #[.slice C h.cells.length kC,.slice R h.roots.length kR,.slice V (mCounts h).length kV])) _):=hid (by rw[HF.out,HE.out];exact⟨_,rvs,_,_,rfl,HZ.order [1,2,3] (by decide) rfl⟩)
   clear H HZ
   go_wp2
   exact bodyPost_ret (by simp[results,Tryz.results34,go_sem,z0,z1,z2]) rfl HS.out
set_option maxHeartbeats 6400000 in
set_option maxRecDepth 20000 in
theorem specRunSweep_any (w:World) (B:Nat) (A:Option Addr) (n c:Nat) (cs:List Cmd) (hr:RdQ w B A n c cs) (LI:Int):
  Calls Tryz.prog 35 #[.slice A n c,.int .i64 LI] w (MadeHBl w (mRunSwH cs LI) (mRunSwB cs LI)):=by
 have hr:=hr.top
 obtain rfl:=hr.len
 have hm:=Nat.le_trans hr.cap hr.mx
 unfold maxLen at hm
 have H:=(Owns.nil w).box [.slice none 0 0,.slice none 0 0] 29
 go_enter Tryz.func35,Tryz.ntmps35
 go_wp2_with fail
 refine (specCommandsValid_any _ _ _ _ _ cs (hr.below H.below)).mono ?_
 rintro e w1 ⟨rfl,hb⟩
 replace H:=H.call hb
 clear hb
 obtain⟨y0,y1,y2,y3⟩:=H.box2 0 rfl
 cases hc:cmdsOk cs
 ·have HF1:=hid (swH_no1 (L:=LI) hc)
  have HF2:=hid (swB_no1 (L:=LI) hc)
  clear hc
  have HZ:=(((H.putBox 0 rfl 0 (.slice none 0 0)).putBox 0 rfl 1 (.slice none 0 0)).noInts).noCells
  simp only[lnm]at HZ
  obtain⟨z0,z1,-,-⟩:=HZ.box2 2 rfl
  have HS:Hid (MadeHBl w (mRunSwH cs LI) (mRunSwB cs LI) (.returned (.tuple #[.agg #[.slice none 0 0,.slice none 0 0],.bool false])) _):=hid (by rw[HF1.out,HF2.out];exact⟨_,[],_,rfl,HZ.take 2⟩)
  clear HZ H
  go_wp2
  exact bodyPost_ret (by simp[results,Tryz.results35,go_sem,z0,z1]) rfl HS.out
 go_wp2_with fail
 refine (l1In_b LI 1 40 _).mono ?_
 rintro e w2 ⟨rfl,hw⟩
 obtain rfl:=hw
 cases hl:inR LI 1 40
 ·have HF1:=hid (swH_no2 (cs:=cs) hl)
  have HF2:=hid (swB_no2 (cs:=cs) hl)
  clear hc hl
  have HZ:=(((H.putBox 0 rfl 0 (.slice none 0 0)).putBox 0 rfl 1 (.slice none 0 0)).noInts).noCells
  simp only[lnm]at HZ
  obtain⟨z0,z1,-,-⟩:=HZ.box2 2 rfl
  have HS:Hid (MadeHBl w (mRunSwH cs LI) (mRunSwB cs LI) (.returned (.tuple #[.agg #[.slice none 0 0,.slice none 0 0],.bool false])) _):=hid (by rw[HF1.out,HF2.out];exact⟨_,[],_,rfl,HZ.take 2⟩)
  clear HZ H
  go_wp2
  exact bodyPost_ret (by simp[results,Tryz.results35,go_sem,z0,z1]) rfl HS.out
 obtain⟨q1,q2⟩:=inR_iff.1 hl
 obtain⟨L,rfl⟩:=Int.eq_ofNat_of_zero_le (show 0<=LI by omega)
 have hL1:1<=L:=by omega
 have hL2:L<=40:=by omega
 have HA:=hid (cmdsOk_all hc)
 obtain⟨RR,hRR⟩:∃ r,r=runSw L emptyH cs:=⟨_,rfl⟩
 have HF1:Hid (mRunSwH cs (L:Int)=RR.1):=hid (by rw[swH_yes hc hL1 hL2,hRR])
 have HF2:Hid (mRunSwB cs (L:Int)=RR.2):=hid (by rw[swB_yes hc hL1 hL2,hRR])
 have HR0:Hid (runSw L emptyH (cs.drop 0)=RR):=hid (by rw[hRR,List.drop_zero])
 clear hc hl q1 q2 hRR
 go_wp2_with fail
 refine (specEmptyHeap_any _).mono ?_
 rintro e w3 ⟨cv,rvs,rv,rfl,K⟩
 replace K:=H.merge K
 simp only[lca]at K
 obtain⟨C,kC,rfl,-⟩:=K.formC 0 rfl
 obtain⟨R,kR,rfl,-⟩:=K.formI 1 rfl
 clear H y0 y1 y2 y3
 have H3:=K.box [.slice C emptyH.cells.length kC,.slice R emptyH.roots.length kR] 29
 clear K
 go_wp2_with fail
 go_loopw [7] (fun i wr=>∃ (k:Nat) (C R:Option Addr) (kC kR:Nat) (rvs:List Value) (h:Hp),i=.int .i64 k/\k<=cs.length/\Hid (runSw L h (cs.drop k)=RR)/\Hid (Good h)/\Owns w.heap.size w wr [.box w3.heap.size [.slice C h.cells.length kC,.slice R h.roots.length kR] 29,.cells (.slice C h.cells.length kC) rvs h.cells,.ints (.slice R h.roots.length kR) h.roots,.box w.heap.size [.slice none 0 0,.slice none 0 0] 29]) (fun i _=>cs.length - (intOf i).toNat)
 case atStart=>exact⟨0,C,R,kC,kR,rvs,emptyH,rfl,Nat.zero_le _,HR0,hid emptyH_good,H3⟩
 case round =>
  clear H3 HR0
  obtain⟨k,C,R,kC,kR,rvs,h,rfl,hk,HR,GG,H⟩:=hrel
  obtain⟨x0,x1,x2,x3⟩:=H.box2 0 rfl
  by_cases hlt:k<cs.length
  ·obtain⟨b,o,p,rfl,hbb,hx,q1,q2,q3,q4⟩:=hr.at_ hlt
   have HP:Hid (cmdOk p=true):=hid (HA.out p (List.mem_of_getElem? hx.out))
   have HGN:=hid (stepSw_good (L:=L) GG.out HP.out hL2)
   have HST:=hid (fun h1 h2=>runSw_stop (p:=p) hx HR.out h1 h2)
   have HGO:=hid (fun hn=>runSw_go (p:=p) hx HR.out hn)
   clear HR
   go_wp2_with fail
   have HX:=H.drew
   have H0:=hid H
   clear H x0 x1 x2 x3
   obtain⟨x0,x1,-,-⟩:=HX.box2 0 rfl
   have g1:=HX.ro q1 hbb
   have g2:=HX.ro q2 hbb
   have g3:=HX.ro q3 hbb
   have g4:=HX.ro q4 hbb
   refine wp_region_tree (fun w'=>(w'.cell? ⟨w3.heap.size,0,none⟩=some (.slice C h.cells.length kC)/\w'.cell? ⟨w3.heap.size,1,none⟩=some (.slice R h.roots.length kR))/\w'.cell? ⟨b,o+k*4,none⟩=some (.int .i64 p.op)/\w'.cell? ⟨b,o+k*4+1,none⟩=some (.int .i64 p.a)/\w'.cell? ⟨b,o+k*4+2,none⟩=some (.int .i64 p.b)/\w'.cell? ⟨b,o+k*4+3,none⟩=some (.int .i64 p.c)) 13 [] (.take 0 (.take 1 (.take 2 (.take 3 (.take 4 (.take 5 (.alt 6 (.take 7 (.take 8 (.take 9 (.alt 10 (.alt 11 (.take 12 (.done)) (.stop)) (.stop))))) (.alt 10 (.alt 6 (.take 7 (.take 8 (.take 9 (.alt 11 (.take 12 (.done)) (.stop))))) (.stop)) (.stop))))))))) (by kernel_rfl) (by kernel_rfl) (by kernel_rfl) (⟨⟨x0,x1⟩,g1,g2,g3,g4⟩) ?_
   simp only[fillT,lgz,Nat.reduceBEq]
   repeat first|(with_reducible apply po_take;(·(go_simp;done));(·(intro w' hS';(try dsimp only at hS');go_simp;try with_reducible rfl));simp only[lpa])|(with_reducible apply po_skip;(·(go_simp;done));simp only[lpa])
   with_reducible refine po_run ?_ (fun K hK=>?_) ?_
   ·(go_simp;done)
   ·
    go_simp
    refine (specStepSweep_any _ _ _ h (HX.rdH 1 2 rfl rfl) L hL1 hL2 p GG.out HP.out).mono ?_
    rintro e wa ⟨cv,rvs',rv,rfl,K⟩
    replace K:=HX.merge K
    simp only[lca]at K
    obtain⟨T,hT⟩:∃ T,T=(stepSw h L p).1:=⟨_,rfl⟩
    obtain⟨tb,htb⟩:∃ b,b=(stepSw h L p).2:=⟨_,rfl⟩
    rw[<-htb]
    rw[<-htb,<-hT]at HST
    rw[<-htb,<-hT]at HGO
    rw[<-hT]at K HGN
    clear hT htb HX
    have HX:=K
    clear K
    obtain⟨C',kC',rfl,-⟩:=HX.formC 0 rfl
    obtain⟨R',kR',rfl,-⟩:=HX.formI 1 rfl
    clear x0 x1 g1 g2 g3 g4
    obtain⟨x0,x1,-,-⟩:=HX.box2 2 rfl
    have g1:=HX.ro q1 hbb
    have g2:=HX.ro q2 hbb
    have g3:=HX.ro q3 hbb
    have g4:=HX.ro q4 hbb
    refine hK.out _ _ (.inr (⟨⟨x0,x1⟩,g1,g2,g3,g4⟩)) ?_
    clear hK K
    repeat first|(with_reducible apply po_take;(·(go_simp;done));(·(intro w' hS';(try dsimp only at hS');go_simp;try with_reducible rfl));simp only[lpa])|(with_reducible apply po_skip;(·(go_simp;done));simp only[lpa])
    with_reducible refine po_last ?_ (fun K hK=>?_)
    ·(go_simp;done)
    go_simp
    have HP9:=HX
    replace HX:=HX.box [.slice none 0 0,.slice none 0 0] 29
    try simp only[drew_size]at HX
    clear x0 x1 g1 g2 g3 g4
    obtain⟨x0,x1,-,-⟩:=HX.box2 (1+2*1) rfl
    have g1:=HX.ro q1 hbb
    have g2:=HX.ro q2 hbb
    have g3:=HX.ro q3 hbb
    have g4:=HX.ro q4 hbb
    refine hK.out _ _ (.inr (⟨⟨x0,x1⟩,g1,g2,g3,g4⟩)) ?_
    clear hK K
    with_reducible refine po_last ?_ (fun K hK=>?_)
    ·(go_simp;done)
    go_simp
    have HZ:=HP9.box [.slice C' T.cells.length kC',.slice R' T.roots.length kR'] 29
    have HY:=HZ.places [0,1,2,3,6] (by decide) (by simp);simp only[lfm]at HY
    clear x0 x1 g1 g2 g3 g4 HX HZ HP9
    obtain⟨x0,x1,-,-⟩:=HY.box2 3 rfl
    have g1:=HY.ro q1 hbb
    have g2:=HY.ro q2 hbb
    have g3:=HY.ro q3 hbb
    have g4:=HY.ro q4 hbb
    refine hK.out _ _ (.inr (⟨⟨x0,x1⟩,g1,g2,g3,g4⟩)) ?_
    clear hK K
    clear x0 x1 g2 g3 g4
    repeat first|(with_reducible apply po_take;(·(go_simp;done));(·(intro w' hS';(try dsimp only at hS');go_simp;try with_reducible rfl));simp only[lpa])|(with_reducible apply po_skip;(·(go_simp;done));simp only[lpa])
    refine po_done ?_
    obtain⟨x0,x1,x2,x3⟩:=HY.box2 3 rfl
    obtain⟨n0,n1,-,-⟩:=HY.box2 0 rfl
    cases tb
    ·by_cases h1:p.op=1
     ·have HE:=hid (HST.out rfl h1)
      have k3:(p.op == 1)=true:=by simp[h1]
      obtain⟨y0,y1,y2,y3⟩:=HY.box2 4 rfl
      have HZ:=(HY.putBox 4 rfl 0 (.slice C' T.cells.length kC')).putBox 4 rfl 1 (.slice R' T.roots.length kR')
      simp only[lnm]at HZ
      obtain⟨z0,z1,-,-⟩:=HZ.box2 4 rfl
      obtain⟨z2,-,-,-⟩:=(HY.putBox 4 rfl 0 (.slice C' T.cells.length kC')).box2 4 rfl
      have HS:Hid (MadeHBl w (mRunSwH cs (L:Int)) (mRunSwB cs (L:Int)) (.returned (.tuple #[.agg #[.slice C' T.cells.length kC',.slice R' T.roots.length kR'],.bool false])) _):=hid (by rw[HF1.out,HF2.out,HE.out];exact⟨_,rvs',_,rfl,HZ.order [1,2] (by decide) rfl⟩)
      clear HY H0 HZ q1 q2 q3 q4 h1
      go_wp2
      exact bodyPost_ret (by simp[results,Tryz.results35,go_sem,z0,z1,z2]) rfl HS.out
     ·have HE:=hid (HGO.out fun k=>h1 k.2)
      have k3:(p.op == 1)=false:=by simp[h1]
      have H7:=(((HY.putBox 3 rfl 0 (.slice C' T.cells.length kC')).putBox 3 rfl 1 (.slice R' T.roots.length kR'))).places [3,1,2,4] (by decide) (by simp)
      simp only[lfm,lsz]at H7
      clear HY H0 q1 q2 q3 q4 h1
      go_wp2_with fail
      go_roundw
      case rel=>exact⟨k+1,C',R',kC',kR',rvs',T,by go_num,by omega,HE,HGN,H7⟩
      case measure=>simp[intOf];omega
    ·have HE:=hid (HGO.out fun k=>Bool.noConfusion k.1)
     have H7:=(((HY.putBox 3 rfl 0 (.slice C' T.cells.length kC')).putBox 3 rfl 1 (.slice R' T.roots.length kR'))).places [3,1,2,4] (by decide) (by simp)
     simp only[lfm,lsz]at H7
     clear HY H0 q1 q2 q3 q4
     go_wp2_with fail
     go_roundw
     case rel=>exact⟨k+1,C',R',kC',kR',rvs',T,by go_num,by omega,HE,HGN,H7⟩
     case measure=>simp[intOf];omega
   with_reducible refine po_last ?_ (fun K hK=>?_)
   ·(go_simp;done)
   go_simp
   have HP9:=HX
   replace HX:=HX.box [.slice none 0 0,.slice none 0 0] 29
   try simp only[drew_size]at HX
   clear x0 x1 g1 g2 g3 g4
   obtain⟨x0,x1,-,-⟩:=HX.box2 (1+2*0) rfl
   have g1:=HX.ro q1 hbb
   have g2:=HX.ro q2 hbb
   have g3:=HX.ro q3 hbb
   have g4:=HX.ro q4 hbb
   refine hK.out _ _ (.inr (⟨⟨x0,x1⟩,g1,g2,g3,g4⟩)) ?_
   clear hK K
   with_reducible refine po_last ?_ (fun K hK=>?_)
   ·(go_simp;done)
   go_simp
   refine (specStepSweep_any _ _ _ h (HX.rdH 2 3 rfl rfl) L hL1 hL2 p GG.out HP.out).mono ?_
   rintro e wa ⟨cv,rvs',rv,rfl,K⟩
   replace K:=HX.merge K
   simp only[lca]at K
   obtain⟨T,hT⟩:∃ T,T=(stepSw h L p).1:=⟨_,rfl⟩
   obtain⟨tb,htb⟩:∃ b,b=(stepSw h L p).2:=⟨_,rfl⟩
   rw[<-htb]
   rw[<-htb,<-hT]at HST
   rw[<-htb,<-hT]at HGO
   rw[<-hT]at K HGN
   clear hT htb HX
   have HX:=K
   clear K
   obtain⟨C',kC',rfl,-⟩:=HX.formC 0 rfl
   obtain⟨R',kR',rfl,-⟩:=HX.formI 1 rfl
   clear x0 x1 g1 g2 g3 g4
   obtain⟨x0,x1,-,-⟩:=HX.box2 3 rfl
   have g1:=HX.ro q1 hbb
   have g2:=HX.ro q2 hbb
   have g3:=HX.ro q3 hbb
   have g4:=HX.ro q4 hbb
   refine hK.out _ _ (.inr (⟨⟨x0,x1⟩,g1,g2,g3,g4⟩)) ?_
   clear hK K
   repeat first|(with_reducible apply po_take;(·(go_simp;done));(·(intro w' hS';(try dsimp only at hS');go_simp;try with_reducible rfl));simp only[lpa])|(with_reducible apply po_skip;(·(go_simp;done));simp only[lpa])
   with_reducible refine po_last ?_ (fun K hK=>?_)
   ·(go_simp;done)
   obtain⟨e0,e1,e2,e3⟩:=HX.box2 2 rfl
   go_simp
   have HZ:=(HX.putBox 2 rfl 0 (.slice C' T.cells.length kC')).putBox 2 rfl 1 (.slice R' T.roots.length kR')
   have HY:=HZ.places [2,0,1,3,6] (by decide) (by simp);simp only[lfm,lsz]at HY
   clear x0 x1 g1 g2 g3 g4 HX HZ HP9
   obtain⟨x0,x1,-,-⟩:=HY.box2 3 rfl
   have g1:=HY.ro q1 hbb
   have g2:=HY.ro q2 hbb
   have g3:=HY.ro q3 hbb
   have g4:=HY.ro q4 hbb
   refine hK.out _ _ (.inr (⟨⟨x0,x1⟩,g1,g2,g3,g4⟩)) ?_
   clear hK K
   clear x0 x1 g2 g3 g4
   repeat first|(with_reducible apply po_take;(·(go_simp;done));(·(intro w' hS';(try dsimp only at hS');go_simp;try with_reducible rfl));simp only[lpa])|(with_reducible apply po_skip;(·(go_simp;done));simp only[lpa])
   refine po_done ?_
   obtain⟨x0,x1,x2,x3⟩:=HY.box2 3 rfl
   obtain⟨n0,n1,-,-⟩:=HY.box2 0 rfl
   cases tb
   ·by_cases h1:p.op=1
    ·have HE:=hid (HST.out rfl h1)
     have k3:(p.op == 1)=true:=by simp[h1]
     obtain⟨y0,y1,y2,y3⟩:=HY.box2 4 rfl
     have HZ:=(HY.putBox 4 rfl 0 (.slice C' T.cells.length kC')).putBox 4 rfl 1 (.slice R' T.roots.length kR')
     simp only[lnm]at HZ
     obtain⟨z0,z1,-,-⟩:=HZ.box2 4 rfl
     obtain⟨z2,-,-,-⟩:=(HY.putBox 4 rfl 0 (.slice C' T.cells.length kC')).box2 4 rfl
     have HS:Hid (MadeHBl w (mRunSwH cs (L:Int)) (mRunSwB cs (L:Int)) (.returned (.tuple #[.agg #[.slice C' T.cells.length kC',.slice R' T.roots.length kR'],.bool false])) _):=hid (by rw[HF1.out,HF2.out,HE.out];exact⟨_,rvs',_,rfl,HZ.order [1,2] (by decide) rfl⟩)
     clear HY H0 HZ q1 q2 q3 q4 h1
     go_wp2
     exact bodyPost_ret (by simp[results,Tryz.results35,go_sem,z0,z1,z2]) rfl HS.out
    ·have HE:=hid (HGO.out fun k=>h1 k.2)
     have k3:(p.op == 1)=false:=by simp[h1]
     have H7:=(((HY.putBox 3 rfl 0 (.slice C' T.cells.length kC')).putBox 3 rfl 1 (.slice R' T.roots.length kR'))).places [3,1,2,4] (by decide) (by simp)
     simp only[lfm,lsz]at H7
     clear HY H0 q1 q2 q3 q4 h1
     go_wp2_with fail
     go_roundw
     case rel=>exact⟨k+1,C',R',kC',kR',rvs',T,by go_num,by omega,HE,HGN,H7⟩
     case measure=>simp[intOf];omega
   ·have HE:=hid (HGO.out fun k=>Bool.noConfusion k.1)
    have H7:=(((HY.putBox 3 rfl 0 (.slice C' T.cells.length kC')).putBox 3 rfl 1 (.slice R' T.roots.length kR'))).places [3,1,2,4] (by decide) (by simp)
    simp only[lfm,lsz]at H7
    clear HY H0 q1 q2 q3 q4
    go_wp2_with fail
    go_roundw
    case rel=>exact⟨k+1,C',R',kC',kR',rvs',T,by go_num,by omega,HE,HGN,H7⟩
    case measure=>simp[intOf];omega
  ·have HE:=hid (runSw_out (by omega) HR.out)
   obtain⟨y0,y1,y2,y3⟩:=H.box2 3 rfl
   have HZ:=(H.putBox 3 rfl 0 (.slice C h.cells.length kC)).putBox 3 rfl 1 (.slice R h.roots.length kR)
   simp only[lnm]at HZ
   obtain⟨z0,z1,-,-⟩:=HZ.box2 3 rfl
   obtain⟨z2,-,-,-⟩:=(H.putBox 3 rfl 0 (.slice C h.cells.length kC)).box2 3 rfl
   have HS:Hid (MadeHBl w (mRunSwH cs (L:Int)) (mRunSwB cs (L:Int)) (.returned (.tuple #[.agg #[.slice C h.cells.length kC,.slice R h.roots.length kR],.bool true])) _):=hid (by rw[HF1.out,HF2.out,HE.out];exact⟨_,rvs,_,rfl,HZ.order [1,2] (by decide) rfl⟩)
   clear H HZ
   go_wp2
   exact bodyPost_ret (by simp[results,Tryz.results35,go_sem,z0,z1,z2]) rfl HS.out
set_option maxHeartbeats 6400000 in
set_option maxRecDepth 20000 in
theorem specRunCopy_any (w:World) (B:Nat) (A:Option Addr) (n c:Nat) (cs:List Cmd) (hr:RdQ w B A n c cs) (LI:Int):
  Calls Tryz.prog 36 #[.slice A n c,.int .i64 LI] w (MadeHBl w (mRunCpH mCopy cs LI) (mRunCpB mCopy cs LI)):=by
 have hr:=hr.top
 obtain rfl:=hr.len
 have hm:=Nat.le_trans hr.cap hr.mx
 unfold maxLen at hm
 have H:=(Owns.nil w).box [.slice none 0 0,.slice none 0 0] 29
 go_enter Tryz.func36,Tryz.ntmps36
 go_wp2_with fail
 refine (specCommandsValid_any _ _ _ _ _ cs (hr.below H.below)).mono ?_
 rintro e w1 ⟨rfl,hb⟩
 replace H:=H.call hb
 clear hb
 obtain⟨y0,y1,y2,y3⟩:=H.box2 0 rfl
 cases hc:cmdsOk cs
 ·have HF1:=hid (cpH_no1 (mv:=mCopy) (LI:=LI) hc)
  have HF2:=hid (cpB_no1 (mv:=mCopy) (LI:=LI) hc)
  clear hc
  have HZ:=(((H.putBox 0 rfl 0 (.slice none 0 0)).putBox 0 rfl 1 (.slice none 0 0)).noInts).noCells
  simp only[lnm]at HZ
  obtain⟨z0,z1,-,-⟩:=HZ.box2 2 rfl
  have HS:Hid (MadeHBl w (mRunCpH mCopy cs LI) (mRunCpB mCopy cs LI) (.returned (.tuple #[.agg #[.slice none 0 0,.slice none 0 0],.bool false])) _):=hid (by rw[HF1.out,HF2.out];exact⟨_,[],_,rfl,HZ.take 2⟩)
  clear HZ H
  go_wp2
  exact bodyPost_ret (by simp[results,Tryz.results36,go_sem,z0,z1]) rfl HS.out
 go_wp2_with fail
 refine (l1In_b LI 1 40 _).mono ?_
 rintro e w2 ⟨rfl,hw⟩
 obtain rfl:=hw
 cases hl:inR LI 1 40
 ·have HF1:=hid (cpH_no2 (mv:=mCopy) (cs:=cs) hl)
  have HF2:=hid (cpB_no2 (mv:=mCopy) (cs:=cs) hl)
  clear hc hl
  have HZ:=(((H.putBox 0 rfl 0 (.slice none 0 0)).putBox 0 rfl 1 (.slice none 0 0)).noInts).noCells
  simp only[lnm]at HZ
  obtain⟨z0,z1,-,-⟩:=HZ.box2 2 rfl
  have HS:Hid (MadeHBl w (mRunCpH mCopy cs LI) (mRunCpB mCopy cs LI) (.returned (.tuple #[.agg #[.slice none 0 0,.slice none 0 0],.bool false])) _):=hid (by rw[HF1.out,HF2.out];exact⟨_,[],_,rfl,HZ.take 2⟩)
  clear HZ H
  go_wp2
  exact bodyPost_ret (by simp[results,Tryz.results36,go_sem,z0,z1]) rfl HS.out
 obtain⟨q1,q2⟩:=inR_iff.1 hl
 obtain⟨L,rfl⟩:=Int.eq_ofNat_of_zero_le (show 0<=LI by omega)
 have hL1:1<=L:=by omega
 have hL2:L<=40:=by omega
 have HA:=hid (cmdsOk_all hc)
 obtain⟨RR,hRR⟩:∃ r,r=runCp mCopy L emptyH cs:=⟨_,rfl⟩
 have HF1:Hid (mRunCpH mCopy cs (L:Int)=RR.1):=hid (by rw[cpH_yes hc hL1 hL2,hRR])
 have HF2:Hid (mRunCpB mCopy cs (L:Int)=RR.2):=hid (by rw[cpB_yes hc hL1 hL2,hRR])
 have HR0:Hid (runCp mCopy L emptyH (cs.drop 0)=RR):=hid (by rw[hRR,List.drop_zero])
 clear hc hl q1 q2 hRR
 go_wp2_with fail
 refine (specEmptyHeap_any _).mono ?_
 rintro e w3 ⟨cv,rvs,rv,rfl,K⟩
 replace K:=H.merge K
 simp only[lca]at K
 obtain⟨C,kC,rfl,-⟩:=K.formC 0 rfl
 obtain⟨R,kR,rfl,-⟩:=K.formI 1 rfl
 clear H y0 y1 y2 y3
 have H3:=K.box [.slice C emptyH.cells.length kC,.slice R emptyH.roots.length kR] 29
 clear K
 go_wp2_with fail
 go_loopw [7] (fun i wr=>∃ (k:Nat) (C R:Option Addr) (kC kR:Nat) (rvs:List Value) (h:Hp),i=.int .i64 k/\k<=cs.length/\Hid (runCp mCopy L h (cs.drop k)=RR)/\Hid (Good h)/\Owns w.heap.size w wr [.box w3.heap.size [.slice C h.cells.length kC,.slice R h.roots.length kR] 29,.cells (.slice C h.cells.length kC) rvs h.cells,.ints (.slice R h.roots.length kR) h.roots,.box w.heap.size [.slice none 0 0,.slice none 0 0] 29]) (fun i _=>cs.length - (intOf i).toNat)
 case atStart=>exact⟨0,C,R,kC,kR,rvs,emptyH,rfl,Nat.zero_le _,HR0,hid emptyH_good,H3⟩
 case round =>
  clear H3 HR0
  obtain⟨k,C,R,kC,kR,rvs,h,rfl,hk,HR,GG,H⟩:=hrel
  obtain⟨x0,x1,x2,x3⟩:=H.box2 0 rfl
  by_cases hlt:k<cs.length
  ·obtain⟨b,o,p,rfl,hbb,hx,q1,q2,q3,q4⟩:=hr.at_ hlt
   have HP:Hid (cmdOk p=true):=hid (HA.out p (List.mem_of_getElem? hx.out))
   have g1:=H.ro q1 hbb
   have g2:=H.ro q2 hbb
   have g3:=H.ro q3 hbb
   have g4:=H.ro q4 hbb
   by_cases hm:p.op=1/\L<=h.cells.length
   rotate_left
   ·have HE:Hid (runCp mCopy L (mStep h p) (cs.drop (k+1))=RR):=hid (runCp_go hx HR.out hm)
    clear HR
    by_cases h1:p.op=1
    ·have k3:(p.op == 1)=true:=by simp[h1]
     have k4:¬ (L:Int)<=(h.cells.length:Int):=by omega
     clear h1 hm
     have HTG:Hid (Good (mStep h p)):=hid (mStep_good GG.out HP.out)
     go_wp2_with fail
     have HX:=H.drew
     have H0:=hid H
     clear H x0 x1 x2 x3 g1 g2 g3 g4
     obtain⟨x0,x1,-,-⟩:=HX.box2 0 rfl
     have g1:=HX.ro q1 hbb
     have g2:=HX.ro q2 hbb
     have g3:=HX.ro q3 hbb
     have g4:=HX.ro q4 hbb
     refine wp_region_tree (fun w'=>(w'.cell? ⟨w3.heap.size,0,none⟩=some (.slice C h.cells.length kC)/\w'.cell? ⟨w3.heap.size,1,none⟩=some (.slice R h.roots.length kR))/\w'.cell? ⟨b,o+k*4,none⟩=some (.int .i64 p.op)/\w'.cell? ⟨b,o+k*4+1,none⟩=some (.int .i64 p.a)/\w'.cell? ⟨b,o+k*4+2,none⟩=some (.int .i64 p.b)/\w'.cell? ⟨b,o+k*4+3,none⟩=some (.int .i64 p.c)) 12 [] (.take 0 (.take 1 (.take 2 (.take 3 (.take 4 (.alt 5 (.take 6 (.take 7 (.take 8 (.alt 9 (.alt 10 (.take 11 (.done)) (.stop)) (.stop))))) (.alt 9 (.alt 5 (.take 6 (.take 7 (.take 8 (.alt 10 (.take 11 (.done)) (.stop))))) (.stop)) (.stop)))))))) (by kernel_rfl) (by kernel_rfl) (by kernel_rfl) (⟨⟨x0,x1⟩,g1,g2,g3,g4⟩) ?_
     simp only[fillT,lgz,Nat.reduceBEq]
     repeat first|(with_reducible apply po_take;(·(go_simp;done));(·(intro w' hS';(try dsimp only at hS');go_simp;try with_reducible rfl));simp only[lpa])|(with_reducible apply po_skip;(·(go_simp;done));simp only[lpa])
     with_reducible refine po_run ?_ (fun K hK=>?_) ?_
     ·(go_simp;done)
     ·
      go_simp
      refine (stepHeap_any _ _ _ h (HX.rdH 1 2 rfl rfl) p GG.out HP.out).mono ?_
      rintro e wa ⟨cv,rvs',rv,rfl,K⟩
      replace K:=HX.merge K
      simp only[lca]at K
      obtain⟨T,hT⟩:∃ T,T=mStep h p:=⟨_,rfl⟩
      rw[<-hT]at K HE HTG
      clear hT HX
      have HX:=K
      clear K
      obtain⟨C',kC',rfl,-⟩:=HX.formC 0 rfl
      obtain⟨R',kR',rfl,-⟩:=HX.formI 1 rfl
      clear x0 x1 g1 g2 g3 g4
      obtain⟨x0,x1,-,-⟩:=HX.box2 2 rfl
      have g1:=HX.ro q1 hbb
      have g2:=HX.ro q2 hbb
      have g3:=HX.ro q3 hbb
      have g4:=HX.ro q4 hbb
      refine hK.out _ _ (.inr (⟨⟨x0,x1⟩,g1,g2,g3,g4⟩)) ?_
      clear hK K
      repeat first|(with_reducible apply po_take;(·(go_simp;done));(·(intro w' hS';(try dsimp only at hS');go_simp;try with_reducible rfl));simp only[lpa])|(with_reducible apply po_skip;(·(go_simp;done));simp only[lpa])
      with_reducible refine po_last ?_ (fun K hK=>?_)
      ·(go_simp;done)
      go_simp
      have HP9:=HX
      replace HX:=HX.box [.slice none 0 0,.slice none 0 0] 29
      try simp only[drew_size,World.size_setCell]at HX
      clear x0 x1 g1 g2 g3 g4
      obtain⟨x0,x1,-,-⟩:=HX.box2 (1+2*1) rfl
      have g1:=HX.ro q1 hbb
      have g2:=HX.ro q2 hbb
      have g3:=HX.ro q3 hbb
      have g4:=HX.ro q4 hbb
      refine hK.out _ _ (.inr (⟨⟨x0,x1⟩,g1,g2,g3,g4⟩)) ?_
      clear hK K
      with_reducible refine po_last ?_ (fun K hK=>?_)
      ·(go_simp;done)
      go_simp
      have HZ:=HP9.box [.slice C' T.cells.length kC',.slice R' T.roots.length kR'] 29
      have HY:=HZ.places [0,1,2,3,6] (by decide) (by simp);simp only[lfm]at HY
      clear x0 x1 g1 g2 g3 g4 HX HZ HP9
      obtain⟨x0,x1,-,-⟩:=HY.box2 3 rfl
      have g1:=HY.ro q1 hbb
      have g2:=HY.ro q2 hbb
      have g3:=HY.ro q3 hbb
      have g4:=HY.ro q4 hbb
      refine hK.out _ _ (.inr (⟨⟨x0,x1⟩,g1,g2,g3,g4⟩)) ?_
      clear hK K
      clear x0 x1 g1 g2 g3 g4
      repeat first|(with_reducible apply po_take;(·(go_simp;done));(·(intro w' hS';(try dsimp only at hS');go_simp;try with_reducible rfl));simp only[lpa])|(with_reducible apply po_skip;(·(go_simp;done));simp only[lpa])
      refine po_done ?_
      obtain⟨x0,x1,x2,x3⟩:=HY.box2 3 rfl
      obtain⟨n0,n1,-,-⟩:=HY.box2 0 rfl
      have H7:=(((HY.putBox 3 rfl 0 (.slice C' T.cells.length kC')).putBox 3 rfl 1 (.slice R' T.roots.length kR'))).places [3,1,2,4] (by decide) (by simp)
      simp only[lfm,lsz]at H7
      clear HY H0 q1 q2 q3 q4
      go_wp2_with fail
      go_roundw
      case rel=>exact⟨k+1,C',R',kC',kR',rvs',T,by go_num,by omega,HE,HTG,H7⟩
      case measure=>simp[intOf];omega
     with_reducible refine po_last ?_ (fun K hK=>?_)
     ·(go_simp;done)
     go_simp
     have HP9:=HX
     replace HX:=HX.box [.slice none 0 0,.slice none 0 0] 29
     try simp only[drew_size,World.size_setCell]at HX
     clear x0 x1 g1 g2 g3 g4
     obtain⟨x0,x1,-,-⟩:=HX.box2 (1+2*0) rfl
     have g1:=HX.ro q1 hbb
     have g2:=HX.ro q2 hbb
     have g3:=HX.ro q3 hbb
     have g4:=HX.ro q4 hbb
     refine hK.out _ _ (.inr (⟨⟨x0,x1⟩,g1,g2,g3,g4⟩)) ?_
     clear hK K
     with_reducible refine po_last ?_ (fun K hK=>?_)
     ·(go_simp;done)
     go_simp
     refine (stepHeap_any _ _ _ h (HX.rdH 2 3 rfl rfl) p GG.out HP.out).mono ?_
     rintro e wa ⟨cv,rvs',rv,rfl,K⟩
     replace K:=HX.merge K
     simp only[lca]at K
     obtain⟨T,hT⟩:∃ T,T=mStep h p:=⟨_,rfl⟩
     rw[<-hT]at K HE HTG
     clear hT HX
     have HX:=K
     clear K
     obtain⟨C',kC',rfl,-⟩:=HX.formC 0 rfl
     obtain⟨R',kR',rfl,-⟩:=HX.formI 1 rfl
     clear x0 x1 g1 g2 g3 g4
     obtain⟨x0,x1,-,-⟩:=HX.box2 3 rfl
     have g1:=HX.ro q1 hbb
     have g2:=HX.ro q2 hbb
     have g3:=HX.ro q3 hbb
     have g4:=HX.ro q4 hbb
     refine hK.out _ _ (.inr (⟨⟨x0,x1⟩,g1,g2,g3,g4⟩)) ?_
     clear hK K
     repeat first|(with_reducible apply po_take;(·(go_simp;done));(·(intro w' hS';(try dsimp only at hS');go_simp;try with_reducible rfl));simp only[lpa])|(with_reducible apply po_skip;(·(go_simp;done));simp only[lpa])
     with_reducible refine po_last ?_ (fun K hK=>?_)
     ·(go_simp;done)
     obtain⟨e0,e1,e2,e3⟩:=HX.box2 2 rfl
     go_simp
     have HZ:=(HX.putBox 2 rfl 0 (.slice C' T.cells.length kC')).putBox 2 rfl 1 (.slice R' T.roots.length kR')
     have HY:=HZ.places [2,0,1,3,6] (by decide) (by simp);simp only[lfm,lsz]at HY
     clear x0 x1 g1 g2 g3 g4 HX HZ HP9
     obtain⟨x0,x1,-,-⟩:=HY.box2 3 rfl
     have g1:=HY.ro q1 hbb
     have g2:=HY.ro q2 hbb
     have g3:=HY.ro q3 hbb
     have g4:=HY.ro q4 hbb
     refine hK.out _ _ (.inr (⟨⟨x0,x1⟩,g1,g2,g3,g4⟩)) ?_
     clear hK K
     clear x0 x1 g1 g2 g3 g4
     repeat first|(with_reducible apply po_take;(·(go_simp;done));(·(intro w' hS';(try dsimp only at hS');go_simp;try with_reducible rfl));simp only[lpa])|(with_reducible apply po_skip;(·(go_simp;done));simp only[lpa])
     refine po_done ?_
     obtain⟨x0,x1,x2,x3⟩:=HY.box2 3 rfl
     obtain⟨n0,n1,-,-⟩:=HY.box2 0 rfl
     have H7:=(((HY.putBox 3 rfl 0 (.slice C' T.cells.length kC')).putBox 3 rfl 1 (.slice R' T.roots.length kR'))).places [3,1,2,4] (by decide) (by simp)
     simp only[lfm,lsz]at H7
     clear HY H0 q1 q2 q3 q4
     go_wp2_with fail
     go_roundw
     case rel=>exact⟨k+1,C',R',kC',kR',rvs',T,by go_num,by omega,HE,HTG,H7⟩
     case measure=>simp[intOf];omega
    ·have k3:(p.op == 1)=false:=by simp[h1]
     clear h1 hm
     have HTG:Hid (Good (mStep h p)):=hid (mStep_good GG.out HP.out)
     go_wp2_with fail
     have HX:=H.drew
     have H0:=hid H
     clear H x0 x1 x2 x3 g1 g2 g3 g4
     obtain⟨x0,x1,-,-⟩:=HX.box2 0 rfl
     have g1:=HX.ro q1 hbb
     have g2:=HX.ro q2 hbb
     have g3:=HX.ro q3 hbb
     have g4:=HX.ro q4 hbb
     refine wp_region_tree (fun w'=>(w'.cell? ⟨w3.heap.size,0,none⟩=some (.slice C h.cells.length kC)/\w'.cell? ⟨w3.heap.size,1,none⟩=some (.slice R h.roots.length kR))/\w'.cell? ⟨b,o+k*4,none⟩=some (.int .i64 p.op)/\w'.cell? ⟨b,o+k*4+1,none⟩=some (.int .i64 p.a)/\w'.cell? ⟨b,o+k*4+2,none⟩=some (.int .i64 p.b)/\w'.cell? ⟨b,o+k*4+3,none⟩=some (.int .i64 p.c)) 12 [] (.take 0 (.take 1 (.take 2 (.take 3 (.take 4 (.alt 5 (.take 6 (.take 7 (.take 8 (.alt 9 (.alt 10 (.take 11 (.done)) (.stop)) (.stop))))) (.alt 9 (.alt 5 (.take 6 (.take 7 (.take 8 (.alt 10 (.take 11 (.done)) (.stop))))) (.stop)) (.stop)))))))) (by kernel_rfl) (by kernel_rfl) (by kernel_rfl) (⟨⟨x0,x1⟩,g1,g2,g3,g4⟩) ?_
     simp only[fillT,lgz,Nat.reduceBEq]
     repeat first|(with_reducible apply po_take;(·(go_simp;done));(·(intro w' hS';(try dsimp only at hS');go_simp;try with_reducible rfl));simp only[lpa])|(with_reducible apply po_skip;(·(go_simp;done));simp only[lpa])
     with_reducible refine po_run ?_ (fun K hK=>?_) ?_
     ·(go_simp;done)
     ·
      go_simp
      refine (stepHeap_any _ _ _ h (HX.rdH 1 2 rfl rfl) p GG.out HP.out).mono ?_
      rintro e wa ⟨cv,rvs',rv,rfl,K⟩
      replace K:=HX.merge K
      simp only[lca]at K
      obtain⟨T,hT⟩:∃ T,T=mStep h p:=⟨_,rfl⟩
      rw[<-hT]at K HE HTG
      clear hT HX
      have HX:=K
      clear K
      obtain⟨C',kC',rfl,-⟩:=HX.formC 0 rfl
      obtain⟨R',kR',rfl,-⟩:=HX.formI 1 rfl
      clear x0 x1 g1 g2 g3 g4
      obtain⟨x0,x1,-,-⟩:=HX.box2 2 rfl
      have g1:=HX.ro q1 hbb
      have g2:=HX.ro q2 hbb
      have g3:=HX.ro q3 hbb
      have g4:=HX.ro q4 hbb
      refine hK.out _ _ (.inr (⟨⟨x0,x1⟩,g1,g2,g3,g4⟩)) ?_
      clear hK K
      repeat first|(with_reducible apply po_take;(·(go_simp;done));(·(intro w' hS';(try dsimp only at hS');go_simp;try with_reducible rfl));simp only[lpa])|(with_reducible apply po_skip;(·(go_simp;done));simp only[lpa])
      with_reducible refine po_last ?_ (fun K hK=>?_)
      ·(go_simp;done)
      go_simp
      have HP9:=HX
      replace HX:=HX.box [.slice none 0 0,.slice none 0 0] 29
      try simp only[drew_size,World.size_setCell]at HX
      clear x0 x1 g1 g2 g3 g4
      obtain⟨x0,x1,-,-⟩:=HX.box2 (1+2*1) rfl
      have g1:=HX.ro q1 hbb
      have g2:=HX.ro q2 hbb
      have g3:=HX.ro q3 hbb
      have g4:=HX.ro q4 hbb
      refine hK.out _ _ (.inr (⟨⟨x0,x1⟩,g1,g2,g3,g4⟩)) ?_
      clear hK K
      with_reducible refine po_last ?_ (fun K hK=>?_)
      ·(go_simp;done)
      go_simp
      have HZ:=HP9.box [.slice C' T.cells.length kC',.slice R' T.roots.length kR'] 29
      have HY:=HZ.places [0,1,2,3,6] (by decide) (by simp);simp only[lfm]at HY
      clear x0 x1 g1 g2 g3 g4 HX HZ HP9
      obtain⟨x0,x1,-,-⟩:=HY.box2 3 rfl
      have g1:=HY.ro q1 hbb
      have g2:=HY.ro q2 hbb
      have g3:=HY.ro q3 hbb
      have g4:=HY.ro q4 hbb
      refine hK.out _ _ (.inr (⟨⟨x0,x1⟩,g1,g2,g3,g4⟩)) ?_
      clear hK K
      clear x0 x1 g1 g2 g3 g4
      repeat first|(with_reducible apply po_take;(·(go_simp;done));(·(intro w' hS';(try dsimp only at hS');go_simp;try with_reducible rfl));simp only[lpa])|(with_reducible apply po_skip;(·(go_simp;done));simp only[lpa])
      refine po_done ?_
      obtain⟨x0,x1,x2,x3⟩:=HY.box2 3 rfl
      obtain⟨n0,n1,-,-⟩:=HY.box2 0 rfl
      have H7:=(((HY.putBox 3 rfl 0 (.slice C' T.cells.length kC')).putBox 3 rfl 1 (.slice R' T.roots.length kR'))).places [3,1,2,4] (by decide) (by simp)
      simp only[lfm,lsz]at H7
      clear HY H0 q1 q2 q3 q4
      go_wp2_with fail
      go_roundw
      case rel=>exact⟨k+1,C',R',kC',kR',rvs',T,by go_num,by omega,HE,HTG,H7⟩
      case measure=>simp[intOf];omega
     with_reducible refine po_last ?_ (fun K hK=>?_)
     ·(go_simp;done)
     go_simp
     have HP9:=HX
     replace HX:=HX.box [.slice none 0 0,.slice none 0 0] 29
     try simp only[drew_size,World.size_setCell]at HX
     clear x0 x1 g1 g2 g3 g4
     obtain⟨x0,x1,-,-⟩:=HX.box2 (1+2*0) rfl
     have g1:=HX.ro q1 hbb
     have g2:=HX.ro q2 hbb
     have g3:=HX.ro q3 hbb
     have g4:=HX.ro q4 hbb
     refine hK.out _ _ (.inr (⟨⟨x0,x1⟩,g1,g2,g3,g4⟩)) ?_
     clear hK K
     with_reducible refine po_last ?_ (fun K hK=>?_)
     ·(go_simp;done)
     go_simp
     refine (stepHeap_any _ _ _ h (HX.rdH 2 3 rfl rfl) p GG.out HP.out).mono ?_
     rintro e wa ⟨cv,rvs',rv,rfl,K⟩
     replace K:=HX.merge K
     simp only[lca]at K
     obtain⟨T,hT⟩:∃ T,T=mStep h p:=⟨_,rfl⟩
     rw[<-hT]at K HE HTG
     clear hT HX
     have HX:=K
     clear K
     obtain⟨C',kC',rfl,-⟩:=HX.formC 0 rfl
     obtain⟨R',kR',rfl,-⟩:=HX.formI 1 rfl
     clear x0 x1 g1 g2 g3 g4
     obtain⟨x0,x1,-,-⟩:=HX.box2 3 rfl
     have g1:=HX.ro q1 hbb
     have g2:=HX.ro q2 hbb
     have g3:=HX.ro q3 hbb
     have g4:=HX.ro q4 hbb
     refine hK.out _ _ (.inr (⟨⟨x0,x1⟩,g1,g2,g3,g4⟩)) ?_
     clear hK K
     repeat first|(with_reducible apply po_take;(·(go_simp;done));(·(intro w' hS';(try dsimp only at hS');go_simp;try with_reducible rfl));simp only[lpa])|(with_reducible apply po_skip;(·(go_simp;done));simp only[lpa])
     with_reducible refine po_last ?_ (fun K hK=>?_)
     ·(go_simp;done)
     obtain⟨e0,e1,e2,e3⟩:=HX.box2 2 rfl
     go_simp
     have HZ:=(HX.putBox 2 rfl 0 (.slice C' T.cells.length kC')).putBox 2 rfl 1 (.slice R' T.roots.length kR')
     have HY:=HZ.places [2,0,1,3,6] (by decide) (by simp);simp only[lfm,lsz]at HY
     clear x0 x1 g1 g2 g3 g4 HX HZ HP9
     obtain⟨x0,x1,-,-⟩:=HY.box2 3 rfl
     have g1:=HY.ro q1 hbb
     have g2:=HY.ro q2 hbb
     have g3:=HY.ro q3 hbb
     have g4:=HY.ro q4 hbb
     refine hK.out _ _ (.inr (⟨⟨x0,x1⟩,g1,g2,g3,g4⟩)) ?_
     clear hK K
     clear x0 x1 g1 g2 g3 g4
     repeat first|(with_reducible apply po_take;(·(go_simp;done));(·(intro w' hS';(try dsimp only at hS');go_simp;try with_reducible rfl));simp only[lpa])|(with_reducible apply po_skip;(·(go_simp;done));simp only[lpa])
     refine po_done ?_
     obtain⟨x0,x1,x2,x3⟩:=HY.box2 3 rfl
     obtain⟨n0,n1,-,-⟩:=HY.box2 0 rfl
     have H7:=(((HY.putBox 3 rfl 0 (.slice C' T.cells.length kC')).putBox 3 rfl 1 (.slice R' T.roots.length kR'))).places [3,1,2,4] (by decide) (by simp)
     simp only[lfm,lsz]at H7
     clear HY H0 q1 q2 q3 q4
     go_wp2_with fail
     go_roundw
     case rel=>exact⟨k+1,C',R',kC',kR',rvs',T,by go_num,by omega,HE,HTG,H7⟩
     case measure=>simp[intOf];omega
   obtain⟨h1,hlen⟩:=hm
   have k3:(p.op == 1)=true:=by simp[h1]
   have k4:(L:Int)<=(h.cells.length:Int):=by omega
   have HST:=hid (fun h3=>runCp_stop hx HR.out h1 hlen h3)
   have HMV:=hid (fun h3=>runCp_moved hx HR.out h1 hlen h3)
   have GX:=hid (good_iff.1 (copy_ok (good_iff.2 GG.out)))
   clear HR h1 hlen
   go_wp2_with fail
   refine (specCopyHeap_any _ _ _ h (H.rdH 1 2 rfl rfl) (good_iff.2 GG.out)).mono ?_
   rintro e w4 ⟨v1,rfl,ho,hb⟩
   obtain⟨cv,rvs',rv,rfl,K⟩:=H.madeH ho hb
   obtain⟨X,hX⟩:∃ X,X=mCopy h:=⟨_,rfl⟩
   rw[<-hX]at K HST HMV GX
   clear ho hb hX H x0 x1 x2 x3 g1 g2 g3 g4
   obtain⟨C,kC,rfl,-⟩:=K.formC 0 rfl
   obtain⟨R,kR,rfl,-⟩:=K.formI 1 rfl
   obtain⟨x0,x1,x2,x3⟩:=K.box2 2 rfl
   have H:=((K.putBox 2 rfl 0 (.slice C X.cells.length kC)).putBox 2 rfl 1 (.slice R X.roots.length kR)).places [2,0,1,5] (by decide) (by simp)
   simp only[lfm,lsz]at H
   obtain⟨v0,v1,-,-⟩:=H.box2 0 rfl
   have g1:=H.ro q1 hbb
   have g2:=H.ro q2 hbb
   have g3:=H.ro q3 hbb
   have g4:=H.ro q4 hbb
   clear K
   by_cases hs:L<=X.cells.length
   ·have HE:=hid (HST.out hs)
    have k5:(L:Int)<=(X.cells.length:Int):=by omega
    obtain⟨y0,y1,y2,y3⟩:=H.box2 3 rfl
    have HZ:=(H.putBox 3 rfl 0 (.slice C X.cells.length kC)).putBox 3 rfl 1 (.slice R X.roots.length kR)
    simp only[lnm]at HZ
    obtain⟨z0,z1,-,-⟩:=HZ.box2 3 rfl
    obtain⟨z2,-,-,-⟩:=(H.putBox 3 rfl 0 (.slice C X.cells.length kC)).box2 3 rfl
    have HS:Hid (MadeHBl w (mRunCpH mCopy cs (L:Int)) (mRunCpB mCopy cs (L:Int)) (.returned (.tuple #[.agg #[.slice C X.cells.length kC,.slice R X.roots.length kR],.bool false])) _):=hid (by rw[HF1.out,HF2.out,HE.out];exact⟨_,rvs',_,rfl,HZ.order [1,2] (by decide) rfl⟩)
    clear H HZ
    go_wp2
    exact bodyPost_ret (by simp[results,Tryz.results36,go_sem,z0,z1,z2]) rfl HS.out
   ·have HE:Hid (runCp mCopy L (mStep X p) (cs.drop (k+1))=RR):=hid (HMV.out hs)
    have k5:¬ (L:Int)<=(X.cells.length:Int):=by omega
    clear HST HMV hs v0 v1
    have GG':=GX
    have HTG:Hid (Good (mStep X p)):=hid (mStep_good GG'.out HP.out)
    go_wp2_with fail
    have HX:=H.drew
    have H0:=hid H
    clear H x0 x1 x2 x3 g1 g2 g3 g4
    obtain⟨x0,x1,-,-⟩:=HX.box2 0 rfl
    have g1:=HX.ro q1 hbb
    have g2:=HX.ro q2 hbb
    have g3:=HX.ro q3 hbb
    have g4:=HX.ro q4 hbb
    refine wp_region_tree (fun w'=>(w'.cell? ⟨w3.heap.size,0,none⟩=some (.slice C X.cells.length kC)/\w'.cell? ⟨w3.heap.size,1,none⟩=some (.slice R X.roots.length kR))/\w'.cell? ⟨b,o+k*4,none⟩=some (.int .i64 p.op)/\w'.cell? ⟨b,o+k*4+1,none⟩=some (.int .i64 p.a)/\w'.cell? ⟨b,o+k*4+2,none⟩=some (.int .i64 p.b)/\w'.cell? ⟨b,o+k*4+3,none⟩=some (.int .i64 p.c)) 12 [] (.take 0 (.take 1 (.take 2 (.take 3 (.take 4 (.alt 5 (.take 6 (.take 7 (.take 8 (.alt 9 (.alt 10 (.take 11 (.done)) (.stop)) (.stop))))) (.alt 9 (.alt 5 (.take 6 (.take 7 (.take 8 (.alt 10 (.take 11 (.done)) (.stop))))) (.stop)) (.stop)))))))) (by kernel_rfl) (by kernel_rfl) (by kernel_rfl) (⟨⟨x0,x1⟩,g1,g2,g3,g4⟩) ?_
    simp only[fillT,lgz,Nat.reduceBEq]
    repeat first|(with_reducible apply po_take;(·(go_simp;done));(·(intro w' hS';(try dsimp only at hS');go_simp;try with_reducible rfl));simp only[lpa])|(with_reducible apply po_skip;(·(go_simp;done));simp only[lpa])
    with_reducible refine po_run ?_ (fun K hK=>?_) ?_
    ·(go_simp;done)
    ·
     go_simp
     refine (stepHeap_any _ _ _ X (HX.rdH 1 2 rfl rfl) p GG'.out HP.out).mono ?_
     rintro e wa ⟨cv,rvs',rv,rfl,K⟩
     replace K:=HX.merge K
     simp only[lca]at K
     obtain⟨T,hT⟩:∃ T,T=mStep X p:=⟨_,rfl⟩
     rw[<-hT]at K HE HTG
     clear hT HX
     have HX:=K
     clear K
     obtain⟨C',kC',rfl,-⟩:=HX.formC 0 rfl
     obtain⟨R',kR',rfl,-⟩:=HX.formI 1 rfl
     clear x0 x1 g1 g2 g3 g4
     obtain⟨x0,x1,-,-⟩:=HX.box2 2 rfl
     have g1:=HX.ro q1 hbb
     have g2:=HX.ro q2 hbb
     have g3:=HX.ro q3 hbb
     have g4:=HX.ro q4 hbb
     refine hK.out _ _ (.inr (⟨⟨x0,x1⟩,g1,g2,g3,g4⟩)) ?_
     clear hK K
     repeat first|(with_reducible apply po_take;(·(go_simp;done));(·(intro w' hS';(try dsimp only at hS');go_simp;try with_reducible rfl));simp only[lpa])|(with_reducible apply po_skip;(·(go_simp;done));simp only[lpa])
     with_reducible refine po_last ?_ (fun K hK=>?_)
     ·(go_simp;done)
     go_simp
     have HP9:=HX
     replace HX:=HX.box [.slice none 0 0,.slice none 0 0] 29
     try simp only[drew_size,World.size_setCell]at HX
     clear x0 x1 g1 g2 g3 g4
     obtain⟨x0,x1,-,-⟩:=HX.box2 (1+2*1) rfl
     have g1:=HX.ro q1 hbb
     have g2:=HX.ro q2 hbb
     have g3:=HX.ro q3 hbb
     have g4:=HX.ro q4 hbb
     refine hK.out _ _ (.inr (⟨⟨x0,x1⟩,g1,g2,g3,g4⟩)) ?_
     clear hK K
     with_reducible refine po_last ?_ (fun K hK=>?_)
     ·(go_simp;done)
     go_simp
     have HZ:=HP9.box [.slice C' T.cells.length kC',.slice R' T.roots.length kR'] 29
     have HY:=HZ.places [0,1,2,3,6] (by decide) (by simp);simp only[lfm]at HY
     clear x0 x1 g1 g2 g3 g4 HX HZ HP9
     obtain⟨x0,x1,-,-⟩:=HY.box2 3 rfl
     have g1:=HY.ro q1 hbb
     have g2:=HY.ro q2 hbb
     have g3:=HY.ro q3 hbb
     have g4:=HY.ro q4 hbb
     refine hK.out _ _ (.inr (⟨⟨x0,x1⟩,g1,g2,g3,g4⟩)) ?_
     clear hK K
     clear x0 x1 g1 g2 g3 g4
     repeat first|(with_reducible apply po_take;(·(go_simp;done));(·(intro w' hS';(try dsimp only at hS');go_simp;try with_reducible rfl));simp only[lpa])|(with_reducible apply po_skip;(·(go_simp;done));simp only[lpa])
     refine po_done ?_
     obtain⟨x0,x1,x2,x3⟩:=HY.box2 3 rfl
     obtain⟨n0,n1,-,-⟩:=HY.box2 0 rfl
     have H7:=(((HY.putBox 3 rfl 0 (.slice C' T.cells.length kC')).putBox 3 rfl 1 (.slice R' T.roots.length kR'))).places [3,1,2,4] (by decide) (by simp)
     simp only[lfm,lsz]at H7
     clear HY H0 q1 q2 q3 q4
     go_wp2_with fail
     go_roundw
     case rel=>exact⟨k+1,C',R',kC',kR',rvs',T,by go_num,by omega,HE,HTG,H7⟩
     case measure=>simp[intOf];omega
    with_reducible refine po_last ?_ (fun K hK=>?_)
    ·(go_simp;done)
    go_simp
    have HP9:=HX
    replace HX:=HX.box [.slice none 0 0,.slice none 0 0] 29
    try simp only[drew_size,World.size_setCell]at HX
    clear x0 x1 g1 g2 g3 g4
    obtain⟨x0,x1,-,-⟩:=HX.box2 (1+2*0) rfl
    have g1:=HX.ro q1 hbb
    have g2:=HX.ro q2 hbb
    have g3:=HX.ro q3 hbb
    have g4:=HX.ro q4 hbb
    refine hK.out _ _ (.inr (⟨⟨x0,x1⟩,g1,g2,g3,g4⟩)) ?_
    clear hK K
    with_reducible refine po_last ?_ (fun K hK=>?_)
    ·(go_simp;done)
    go_simp
    refine (stepHeap_any _ _ _ X (HX.rdH 2 3 rfl rfl) p GG'.out HP.out).mono ?_
    rintro e wa ⟨cv,rvs',rv,rfl,K⟩
    replace K:=HX.merge K
    simp only[lca]at K
    obtain⟨T,hT⟩:∃ T,T=mStep X p:=⟨_,rfl⟩
    rw[<-hT]at K HE HTG
    clear hT HX
    have HX:=K
    clear K
    obtain⟨C',kC',rfl,-⟩:=HX.formC 0 rfl
    obtain⟨R',kR',rfl,-⟩:=HX.formI 1 rfl
    clear x0 x1 g1 g2 g3 g4
    obtain⟨x0,x1,-,-⟩:=HX.box2 3 rfl
    have g1:=HX.ro q1 hbb
    have g2:=HX.ro q2 hbb
    have g3:=HX.ro q3 hbb
    have g4:=HX.ro q4 hbb
    refine hK.out _ _ (.inr (⟨⟨x0,x1⟩,g1,g2,g3,g4⟩)) ?_
    clear hK K
    repeat first|(with_reducible apply po_take;(·(go_simp;done));(·(intro w' hS';(try dsimp only at hS');go_simp;try with_reducible rfl));simp only[lpa])|(with_reducible apply po_skip;(·(go_simp;done));simp only[lpa])
    with_reducible refine po_last ?_ (fun K hK=>?_)
    ·(go_simp;done)
    obtain⟨e0,e1,e2,e3⟩:=HX.box2 2 rfl
    go_simp
    have HZ:=(HX.putBox 2 rfl 0 (.slice C' T.cells.length kC')).putBox 2 rfl 1 (.slice R' T.roots.length kR')
    have HY:=HZ.places [2,0,1,3,6] (by decide) (by simp);simp only[lfm,lsz]at HY
    clear x0 x1 g1 g2 g3 g4 HX HZ HP9
    obtain⟨x0,x1,-,-⟩:=HY.box2 3 rfl
    have g1:=HY.ro q1 hbb
    have g2:=HY.ro q2 hbb
    have g3:=HY.ro q3 hbb
    have g4:=HY.ro q4 hbb
    refine hK.out _ _ (.inr (⟨⟨x0,x1⟩,g1,g2,g3,g4⟩)) ?_
    clear hK K
    clear x0 x1 g1 g2 g3 g4
    repeat first|(with_reducible apply po_take;(·(go_simp;done));(·(intro w' hS';(try dsimp only at hS');go_simp;try with_reducible rfl));simp only[lpa])|(with_reducible apply po_skip;(·(go_simp;done));simp only[lpa])
    refine po_done ?_
    obtain⟨x0,x1,x2,x3⟩:=HY.box2 3 rfl
    obtain⟨n0,n1,-,-⟩:=HY.box2 0 rfl
    have H7:=(((HY.putBox 3 rfl 0 (.slice C' T.cells.length kC')).putBox 3 rfl 1 (.slice R' T.roots.length kR'))).places [3,1,2,4] (by decide) (by simp)
    simp only[lfm,lsz]at H7
    clear HY H0 q1 q2 q3 q4
    go_wp2_with fail
    go_roundw
    case rel=>exact⟨k+1,C',R',kC',kR',rvs',T,by go_num,by omega,HE,HTG,H7⟩
    case measure=>simp[intOf];omega
  ·have HE:=hid (runCp_out (by omega) HR.out)
   obtain⟨y0,y1,y2,y3⟩:=H.box2 3 rfl
   have HZ:=(H.putBox 3 rfl 0 (.slice C h.cells.length kC)).putBox 3 rfl 1 (.slice R h.roots.length kR)
   simp only[lnm]at HZ
   obtain⟨z0,z1,-,-⟩:=HZ.box2 3 rfl
   obtain⟨z2,-,-,-⟩:=(H.putBox 3 rfl 0 (.slice C h.cells.length kC)).box2 3 rfl
   have HS:Hid (MadeHBl w (mRunCpH mCopy cs (L:Int)) (mRunCpB mCopy cs (L:Int)) (.returned (.tuple #[.agg #[.slice C h.cells.length kC,.slice R h.roots.length kR],.bool true])) _):=hid (by rw[HF1.out,HF2.out,HE.out];exact⟨_,rvs,_,rfl,HZ.order [1,2] (by decide) rfl⟩)
   clear H HZ
   go_wp2
   exact bodyPost_ret (by simp[results,Tryz.results36,go_sem,z0,z1,z2]) rfl HS.out
set_option maxHeartbeats 6400000 in
set_option maxRecDepth 20000 in
theorem specRunSlide_any (w:World) (B:Nat) (A:Option Addr) (n c:Nat) (cs:List Cmd) (hr:RdQ w B A n c cs) (LI:Int):
  Calls Tryz.prog 37 #[.slice A n c,.int .i64 LI] w (MadeHBl w (mRunCpH mSlide cs LI) (mRunCpB mSlide cs LI)):=by
 have hr:=hr.top
 obtain rfl:=hr.len
 have hm:=Nat.le_trans hr.cap hr.mx
 unfold maxLen at hm
 have H:=(Owns.nil w).box [.slice none 0 0,.slice none 0 0] 29
 go_enter Tryz.func37,Tryz.ntmps37
 go_wp2_with fail
 refine (specCommandsValid_any _ _ _ _ _ cs (hr.below H.below)).mono ?_
 rintro e w1 ⟨rfl,hb⟩
 replace H:=H.call hb
 clear hb
 obtain⟨y0,y1,y2,y3⟩:=H.box2 0 rfl
 cases hc:cmdsOk cs
 ·have HF1:=hid (cpH_no1 (mv:=mSlide) (LI:=LI) hc)
  have HF2:=hid (cpB_no1 (mv:=mSlide) (LI:=LI) hc)
  clear hc
  have HZ:=(((H.putBox 0 rfl 0 (.slice none 0 0)).putBox 0 rfl 1 (.slice none 0 0)).noInts).noCells
  simp only[lnm]at HZ
  obtain⟨z0,z1,-,-⟩:=HZ.box2 2 rfl
  have HS:Hid (MadeHBl w (mRunCpH mSlide cs LI) (mRunCpB mSlide cs LI) (.returned (.tuple #[.agg #[.slice none 0 0,.slice none 0 0],.bool false])) _):=hid (by rw[HF1.out,HF2.out];exact⟨_,[],_,rfl,HZ.take 2⟩)
  clear HZ H
  go_wp2
  exact bodyPost_ret (by simp[results,Tryz.results37,go_sem,z0,z1]) rfl HS.out
 go_wp2_with fail
 refine (l1In_b LI 1 40 _).mono ?_
 rintro e w2 ⟨rfl,hw⟩
 obtain rfl:=hw
 cases hl:inR LI 1 40
 ·have HF1:=hid (cpH_no2 (mv:=mSlide) (cs:=cs) hl)
  have HF2:=hid (cpB_no2 (mv:=mSlide) (cs:=cs) hl)
  clear hc hl
  have HZ:=(((H.putBox 0 rfl 0 (.slice none 0 0)).putBox 0 rfl 1 (.slice none 0 0)).noInts).noCells
  simp only[lnm]at HZ
  obtain⟨z0,z1,-,-⟩:=HZ.box2 2 rfl
  have HS:Hid (MadeHBl w (mRunCpH mSlide cs LI) (mRunCpB mSlide cs LI) (.returned (.tuple #[.agg #[.slice none 0 0,.slice none 0 0],.bool false])) _):=hid (by rw[HF1.out,HF2.out];exact⟨_,[],_,rfl,HZ.take 2⟩)
  clear HZ H
  go_wp2
  exact bodyPost_ret (by simp[results,Tryz.results37,go_sem,z0,z1]) rfl HS.out
 obtain⟨q1,q2⟩:=inR_iff.1 hl
 obtain⟨L,rfl⟩:=Int.eq_ofNat_of_zero_le (show 0<=LI by omega)
 have hL1:1<=L:=by omega
 have hL2:L<=40:=by omega
 have HA:=hid (cmdsOk_all hc)
 obtain⟨RR,hRR⟩:∃ r,r=runCp mSlide L emptyH cs:=⟨_,rfl⟩
 have HF1:Hid (mRunCpH mSlide cs (L:Int)=RR.1):=hid (by rw[cpH_yes hc hL1 hL2,hRR])
 have HF2:Hid (mRunCpB mSlide cs (L:Int)=RR.2):=hid (by rw[cpB_yes hc hL1 hL2,hRR])
 have HR0:Hid (runCp mSlide L emptyH (cs.drop 0)=RR):=hid (by rw[hRR,List.drop_zero])
 clear hc hl q1 q2 hRR
 go_wp2_with fail
 refine (specEmptyHeap_any _).mono ?_
 rintro e w3 ⟨cv,rvs,rv,rfl,K⟩
 replace K:=H.merge K
 simp only[lca]at K
 obtain⟨C,kC,rfl,-⟩:=K.formC 0 rfl
 obtain⟨R,kR,rfl,-⟩:=K.formI 1 rfl
 clear H y0 y1 y2 y3
 have H3:=K.box [.slice C emptyH.cells.length kC,.slice R emptyH.roots.length kR] 29
 clear K
 go_wp2_with fail
 go_loopw [7] (fun i wr=>∃ (k:Nat) (C R:Option Addr) (kC kR:Nat) (rvs:List Value) (h:Hp),i=.int .i64 k/\k<=cs.length/\Hid (runCp mSlide L h (cs.drop k)=RR)/\Hid (Good h)/\Owns w.heap.size w wr [.box w3.heap.size [.slice C h.cells.length kC,.slice R h.roots.length kR] 29,.cells (.slice C h.cells.length kC) rvs h.cells,.ints (.slice R h.roots.length kR) h.roots,.box w.heap.size [.slice none 0 0,.slice none 0 0] 29]) (fun i _=>cs.length - (intOf i).toNat)
 case atStart=>exact⟨0,C,R,kC,kR,rvs,emptyH,rfl,Nat.zero_le _,HR0,hid emptyH_good,H3⟩
 case round =>
  clear H3 HR0
  obtain⟨k,C,R,kC,kR,rvs,h,rfl,hk,HR,GG,H⟩:=hrel
  obtain⟨x0,x1,x2,x3⟩:=H.box2 0 rfl
  by_cases hlt:k<cs.length
  ·obtain⟨b,o,p,rfl,hbb,hx,q1,q2,q3,q4⟩:=hr.at_ hlt
   have HP:Hid (cmdOk p=true):=hid (HA.out p (List.mem_of_getElem? hx.out))
   have g1:=H.ro q1 hbb
   have g2:=H.ro q2 hbb
   have g3:=H.ro q3 hbb
   have g4:=H.ro q4 hbb
   by_cases hm:p.op=1/\L<=h.cells.length
   rotate_left
   ·have HE:Hid (runCp mSlide L (mStep h p) (cs.drop (k+1))=RR):=hid (runCp_go hx HR.out hm)
    clear HR
    by_cases h1:p.op=1
    ·have k3:(p.op == 1)=true:=by simp[h1]
     have k4:¬ (L:Int)<=(h.cells.length:Int):=by omega
     clear h1 hm
     have HTG:Hid (Good (mStep h p)):=hid (mStep_good GG.out HP.out)
     go_wp2_with fail
     have HX:=H.drew
     have H0:=hid H
     clear H x0 x1 x2 x3 g1 g2 g3 g4
     obtain⟨x0,x1,-,-⟩:=HX.box2 0 rfl
     have g1:=HX.ro q1 hbb
     have g2:=HX.ro q2 hbb
     have g3:=HX.ro q3 hbb
     have g4:=HX.ro q4 hbb
     refine wp_region_tree (fun w'=>(w'.cell? ⟨w3.heap.size,0,none⟩=some (.slice C h.cells.length kC)/\w'.cell? ⟨w3.heap.size,1,none⟩=some (.slice R h.roots.length kR))/\w'.cell? ⟨b,o+k*4,none⟩=some (.int .i64 p.op)/\w'.cell? ⟨b,o+k*4+1,none⟩=some (.int .i64 p.a)/\w'.cell? ⟨b,o+k*4+2,none⟩=some (.int .i64 p.b)/\w'.cell? ⟨b,o+k*4+3,none⟩=some (.int .i64 p.c)) 12 [] (.take 0 (.take 1 (.take 2 (.take 3 (.take 4 (.alt 5 (.take 6 (.take 7 (.take 8 (.alt 9 (.alt 10 (.take 11 (.done)) (.stop)) (.stop))))) (.alt 9 (.alt 5 (.take 6 (.take 7 (.take 8 (.alt 10 (.take 11 (.done)) (.stop))))) (.stop)) (.stop)))))))) (by kernel_rfl) (by kernel_rfl) (by kernel_rfl) (⟨⟨x0,x1⟩,g1,g2,g3,g4⟩) ?_
     simp only[fillT,lgz,Nat.reduceBEq]
     repeat first|(with_reducible apply po_take;(·(go_simp;done));(·(intro w' hS';(try dsimp only at hS');go_simp;try with_reducible rfl));simp only[lpa])|(with_reducible apply po_skip;(·(go_simp;done));simp only[lpa])
     with_reducible refine po_run ?_ (fun K hK=>?_) ?_
     ·(go_simp;done)
     ·
      go_simp
      refine (stepHeap_any _ _ _ h (HX.rdH 1 2 rfl rfl) p GG.out HP.out).mono ?_
      rintro e wa ⟨cv,rvs',rv,rfl,K⟩
      replace K:=HX.merge K
      simp only[lca]at K
      obtain⟨T,hT⟩:∃ T,T=mStep h p:=⟨_,rfl⟩
      rw[<-hT]at K HE HTG
      clear hT HX
      have HX:=K
      clear K
      obtain⟨C',kC',rfl,-⟩:=HX.formC 0 rfl
      obtain⟨R',kR',rfl,-⟩:=HX.formI 1 rfl
      clear x0 x1 g1 g2 g3 g4
      obtain⟨x0,x1,-,-⟩:=HX.box2 2 rfl
      have g1:=HX.ro q1 hbb
      have g2:=HX.ro q2 hbb
      have g3:=HX.ro q3 hbb
      have g4:=HX.ro q4 hbb
      refine hK.out _ _ (.inr (⟨⟨x0,x1⟩,g1,g2,g3,g4⟩)) ?_
      clear hK K
      repeat first|(with_reducible apply po_take;(·(go_simp;done));(·(intro w' hS';(try dsimp only at hS');go_simp;try with_reducible rfl));simp only[lpa])|(with_reducible apply po_skip;(·(go_simp;done));simp only[lpa])
      with_reducible refine po_last ?_ (fun K hK=>?_)
      ·(go_simp;done)
      go_simp
      have HP9:=HX
      replace HX:=HX.box [.slice none 0 0,.slice none 0 0] 29
      try simp only[drew_size,World.size_setCell]at HX
      clear x0 x1 g1 g2 g3 g4
      obtain⟨x0,x1,-,-⟩:=HX.box2 (1+2*1) rfl
      have g1:=HX.ro q1 hbb
      have g2:=HX.ro q2 hbb
      have g3:=HX.ro q3 hbb
      have g4:=HX.ro q4 hbb
      refine hK.out _ _ (.inr (⟨⟨x0,x1⟩,g1,g2,g3,g4⟩)) ?_
      clear hK K
      with_reducible refine po_last ?_ (fun K hK=>?_)
      ·(go_simp;done)
      go_simp
      have HZ:=HP9.box [.slice C' T.cells.length kC',.slice R' T.roots.length kR'] 29
      have HY:=HZ.places [0,1,2,3,6] (by decide) (by simp);simp only[lfm]at HY
      clear x0 x1 g1 g2 g3 g4 HX HZ HP9
      obtain⟨x0,x1,-,-⟩:=HY.box2 3 rfl
      have g1:=HY.ro q1 hbb
      have g2:=HY.ro q2 hbb
      have g3:=HY.ro q3 hbb
      have g4:=HY.ro q4 hbb
      refine hK.out _ _ (.inr (⟨⟨x0,x1⟩,g1,g2,g3,g4⟩)) ?_
      clear hK K
      clear x0 x1 g1 g2 g3 g4
      repeat first|(with_reducible apply po_take;(·(go_simp;done));(·(intro w' hS';(try dsimp only at hS');go_simp;try with_reducible rfl));simp only[lpa])|(with_reducible apply po_skip;(·(go_simp;done));simp only[lpa])
      refine po_done ?_
      obtain⟨x0,x1,x2,x3⟩:=HY.box2 3 rfl
      obtain⟨n0,n1,-,-⟩:=HY.box2 0 rfl
      have H7:=(((HY.putBox 3 rfl 0 (.slice C' T.cells.length kC')).putBox 3 rfl 1 (.slice R' T.roots.length kR'))).places [3,1,2,4] (by decide) (by simp)
      simp only[lfm,lsz]at H7
      clear HY H0 q1 q2 q3 q4
      go_wp2_with fail
      go_roundw
      case rel=>exact⟨k+1,C',R',kC',kR',rvs',T,by go_num,by omega,HE,HTG,H7⟩
      case measure=>simp[intOf];omega
     with_reducible refine po_last ?_ (fun K hK=>?_)
     ·(go_simp;done)
     go_simp
     have HP9:=HX
     replace HX:=HX.box [.slice none 0 0,.slice none 0 0] 29
     try simp only[drew_size,World.size_setCell]at HX
     clear x0 x1 g1 g2 g3 g4
     obtain⟨x0,x1,-,-⟩:=HX.box2 (1+2*0) rfl
     have g1:=HX.ro q1 hbb
     have g2:=HX.ro q2 hbb
     have g3:=HX.ro q3 hbb
     have g4:=HX.ro q4 hbb
     refine hK.out _ _ (.inr (⟨⟨x0,x1⟩,g1,g2,g3,g4⟩)) ?_
     clear hK K
     with_reducible refine po_last ?_ (fun K hK=>?_)
     ·(go_simp;done)
     go_simp
     refine (stepHeap_any _ _ _ h (HX.rdH 2 3 rfl rfl) p GG.out HP.out).mono ?_
     rintro e wa ⟨cv,rvs',rv,rfl,K⟩
     replace K:=HX.merge K
     simp only[lca]at K
     obtain⟨T,hT⟩:∃ T,T=mStep h p:=⟨_,rfl⟩
     rw[<-hT]at K HE HTG
     clear hT HX
     have HX:=K
     clear K
     obtain⟨C',kC',rfl,-⟩:=HX.formC 0 rfl
     obtain⟨R',kR',rfl,-⟩:=HX.formI 1 rfl
     clear x0 x1 g1 g2 g3 g4
     obtain⟨x0,x1,-,-⟩:=HX.box2 3 rfl
     have g1:=HX.ro q1 hbb
     have g2:=HX.ro q2 hbb
     have g3:=HX.ro q3 hbb
     have g4:=HX.ro q4 hbb
     refine hK.out _ _ (.inr (⟨⟨x0,x1⟩,g1,g2,g3,g4⟩)) ?_
     clear hK K
     repeat first|(with_reducible apply po_take;(·(go_simp;done));(·(intro w' hS';(try dsimp only at hS');go_simp;try with_reducible rfl));simp only[lpa])|(with_reducible apply po_skip;(·(go_simp;done));simp only[lpa])
     with_reducible refine po_last ?_ (fun K hK=>?_)
     ·(go_simp;done)
     obtain⟨e0,e1,e2,e3⟩:=HX.box2 2 rfl
     go_simp
     have HZ:=(HX.putBox 2 rfl 0 (.slice C' T.cells.length kC')).putBox 2 rfl 1 (.slice R' T.roots.length kR')
     have HY:=HZ.places [2,0,1,3,6] (by decide) (by simp);simp only[lfm,lsz]at HY
     clear x0 x1 g1 g2 g3 g4 HX HZ HP9
     obtain⟨x0,x1,-,-⟩:=HY.box2 3 rfl
     have g1:=HY.ro q1 hbb
     have g2:=HY.ro q2 hbb
     have g3:=HY.ro q3 hbb
     have g4:=HY.ro q4 hbb
     refine hK.out _ _ (.inr (⟨⟨x0,x1⟩,g1,g2,g3,g4⟩)) ?_
     clear hK K
     clear x0 x1 g1 g2 g3 g4
     repeat first|(with_reducible apply po_take;(·(go_simp;done));(·(intro w' hS';(try dsimp only at hS');go_simp;try with_reducible rfl));simp only[lpa])|(with_reducible apply po_skip;(·(go_simp;done));simp only[lpa])
     refine po_done ?_
     obtain⟨x0,x1,x2,x3⟩:=HY.box2 3 rfl
     obtain⟨n0,n1,-,-⟩:=HY.box2 0 rfl
     have H7:=(((HY.putBox 3 rfl 0 (.slice C' T.cells.length kC')).putBox 3 rfl 1 (.slice R' T.roots.length kR'))).places [3,1,2,4] (by decide) (by simp)
     simp only[lfm,lsz]at H7
     clear HY H0 q1 q2 q3 q4
     go_wp2_with fail
     go_roundw
     case rel=>exact⟨k+1,C',R',kC',kR',rvs',T,by go_num,by omega,HE,HTG,H7⟩
     case measure=>simp[intOf];omega
    ·have k3:(p.op == 1)=false:=by simp[h1]
     clear h1 hm
     have HTG:Hid (Good (mStep h p)):=hid (mStep_good GG.out HP.out)
     go_wp2_with fail
     have HX:=H.drew
     have H0:=hid H
     clear H x0 x1 x2 x3 g1 g2 g3 g4
     obtain⟨x0,x1,-,-⟩:=HX.box2 0 rfl
     have g1:=HX.ro q1 hbb
     have g2:=HX.ro q2 hbb
     have g3:=HX.ro q3 hbb
     have g4:=HX.ro q4 hbb
     refine wp_region_tree (fun w'=>(w'.cell? ⟨w3.heap.size,0,none⟩=some (.slice C h.cells.length kC)/\w'.cell? ⟨w3.heap.size,1,none⟩=some (.slice R h.roots.length kR))/\w'.cell? ⟨b,o+k*4,none⟩=some (.int .i64 p.op)/\w'.cell? ⟨b,o+k*4+1,none⟩=some (.int .i64 p.a)/\w'.cell? ⟨b,o+k*4+2,none⟩=some (.int .i64 p.b)/\w'.cell? ⟨b,o+k*4+3,none⟩=some (.int .i64 p.c)) 12 [] (.take 0 (.take 1 (.take 2 (.take 3 (.take 4 (.alt 5 (.take 6 (.take 7 (.take 8 (.alt 9 (.alt 10 (.take 11 (.done)) (.stop)) (.stop))))) (.alt 9 (.alt 5 (.take 6 (.take 7 (.take 8 (.alt 10 (.take 11 (.done)) (.stop))))) (.stop)) (.stop)))))))) (by kernel_rfl) (by kernel_rfl) (by kernel_rfl) (⟨⟨x0,x1⟩,g1,g2,g3,g4⟩) ?_
     simp only[fillT,lgz,Nat.reduceBEq]
     repeat first|(with_reducible apply po_take;(·(go_simp;done));(·(intro w' hS';(try dsimp only at hS');go_simp;try with_reducible rfl));simp only[lpa])|(with_reducible apply po_skip;(·(go_simp;done));simp only[lpa])
     with_reducible refine po_run ?_ (fun K hK=>?_) ?_
     ·(go_simp;done)
     ·
      go_simp
      refine (stepHeap_any _ _ _ h (HX.rdH 1 2 rfl rfl) p GG.out HP.out).mono ?_
      rintro e wa ⟨cv,rvs',rv,rfl,K⟩
      replace K:=HX.merge K
      simp only[lca]at K
      obtain⟨T,hT⟩:∃ T,T=mStep h p:=⟨_,rfl⟩
      rw[<-hT]at K HE HTG
      clear hT HX
      have HX:=K
      clear K
      obtain⟨C',kC',rfl,-⟩:=HX.formC 0 rfl
      obtain⟨R',kR',rfl,-⟩:=HX.formI 1 rfl
      clear x0 x1 g1 g2 g3 g4
      obtain⟨x0,x1,-,-⟩:=HX.box2 2 rfl
      have g1:=HX.ro q1 hbb
      have g2:=HX.ro q2 hbb
      have g3:=HX.ro q3 hbb
      have g4:=HX.ro q4 hbb
      refine hK.out _ _ (.inr (⟨⟨x0,x1⟩,g1,g2,g3,g4⟩)) ?_
      clear hK K
      repeat first|(with_reducible apply po_take;(·(go_simp;done));(·(intro w' hS';(try dsimp only at hS');go_simp;try with_reducible rfl));simp only[lpa])|(with_reducible apply po_skip;(·(go_simp;done));simp only[lpa])
      with_reducible refine po_last ?_ (fun K hK=>?_)
      ·(go_simp;done)
      go_simp
      have HP9:=HX
      replace HX:=HX.box [.slice none 0 0,.slice none 0 0] 29
      try simp only[drew_size,World.size_setCell]at HX
      clear x0 x1 g1 g2 g3 g4
      obtain⟨x0,x1,-,-⟩:=HX.box2 (1+2*1) rfl
      have g1:=HX.ro q1 hbb
      have g2:=HX.ro q2 hbb
      have g3:=HX.ro q3 hbb
      have g4:=HX.ro q4 hbb
      refine hK.out _ _ (.inr (⟨⟨x0,x1⟩,g1,g2,g3,g4⟩)) ?_
      clear hK K
      with_reducible refine po_last ?_ (fun K hK=>?_)
      ·(go_simp;done)
      go_simp
      have HZ:=HP9.box [.slice C' T.cells.length kC',.slice R' T.roots.length kR'] 29
      have HY:=HZ.places [0,1,2,3,6] (by decide) (by simp);simp only[lfm]at HY
      clear x0 x1 g1 g2 g3 g4 HX HZ HP9
      obtain⟨x0,x1,-,-⟩:=HY.box2 3 rfl
      have g1:=HY.ro q1 hbb
      have g2:=HY.ro q2 hbb
      have g3:=HY.ro q3 hbb
      have g4:=HY.ro q4 hbb
      refine hK.out _ _ (.inr (⟨⟨x0,x1⟩,g1,g2,g3,g4⟩)) ?_
      clear hK K
      clear x0 x1 g1 g2 g3 g4
      repeat first|(with_reducible apply po_take;(·(go_simp;done));(·(intro w' hS';(try dsimp only at hS');go_simp;try with_reducible rfl));simp only[lpa])|(with_reducible apply po_skip;(·(go_simp;done));simp only[lpa])
      refine po_done ?_
      obtain⟨x0,x1,x2,x3⟩:=HY.box2 3 rfl
      obtain⟨n0,n1,-,-⟩:=HY.box2 0 rfl
      have H7:=(((HY.putBox 3 rfl 0 (.slice C' T.cells.length kC')).putBox 3 rfl 1 (.slice R' T.roots.length kR'))).places [3,1,2,4] (by decide) (by simp)
      simp only[lfm,lsz]at H7
      clear HY H0 q1 q2 q3 q4
      go_wp2_with fail
      go_roundw
      case rel=>exact⟨k+1,C',R',kC',kR',rvs',T,by go_num,by omega,HE,HTG,H7⟩
      case measure=>simp[intOf];omega
     with_reducible refine po_last ?_ (fun K hK=>?_)
     ·(go_simp;done)
     go_simp
     have HP9:=HX
     replace HX:=HX.box [.slice none 0 0,.slice none 0 0] 29
     try simp only[drew_size,World.size_setCell]at HX
     clear x0 x1 g1 g2 g3 g4
     obtain⟨x0,x1,-,-⟩:=HX.box2 (1+2*0) rfl
     have g1:=HX.ro q1 hbb
     have g2:=HX.ro q2 hbb
     have g3:=HX.ro q3 hbb
     have g4:=HX.ro q4 hbb
     refine hK.out _ _ (.inr (⟨⟨x0,x1⟩,g1,g2,g3,g4⟩)) ?_
     clear hK K
     with_reducible refine po_last ?_ (fun K hK=>?_)
     ·(go_simp;done)
     go_simp
     refine (stepHeap_any _ _ _ h (HX.rdH 2 3 rfl rfl) p GG.out HP.out).mono ?_
     rintro e wa ⟨cv,rvs',rv,rfl,K⟩
     replace K:=HX.merge K
     simp only[lca]at K
     obtain⟨T,hT⟩:∃ T,T=mStep h p:=⟨_,rfl⟩
     rw[<-hT]at K HE HTG
     clear hT HX
     have HX:=K
     clear K
     obtain⟨C',kC',rfl,-⟩:=HX.formC 0 rfl
     obtain⟨R',kR',rfl,-⟩:=HX.formI 1 rfl
     clear x0 x1 g1 g2 g3 g4
     obtain⟨x0,x1,-,-⟩:=HX.box2 3 rfl
     have g1:=HX.ro q1 hbb
     have g2:=HX.ro q2 hbb
     have g3:=HX.ro q3 hbb
     have g4:=HX.ro q4 hbb
     refine hK.out _ _ (.inr (⟨⟨x0,x1⟩,g1,g2,g3,g4⟩)) ?_
     clear hK K
     repeat first|(with_reducible apply po_take;(·(go_simp;done));(·(intro w' hS';(try dsimp only at hS');go_simp;try with_reducible rfl));simp only[lpa])|(with_reducible apply po_skip;(·(go_simp;done));simp only[lpa])
     with_reducible refine po_last ?_ (fun K hK=>?_)
     ·(go_simp;done)
     obtain⟨e0,e1,e2,e3⟩:=HX.box2 2 rfl
     go_simp
     have HZ:=(HX.putBox 2 rfl 0 (.slice C' T.cells.length kC')).putBox 2 rfl 1 (.slice R' T.roots.length kR')
     have HY:=HZ.places [2,0,1,3,6] (by decide) (by simp);simp only[lfm,lsz]at HY
     clear x0 x1 g1 g2 g3 g4 HX HZ HP9
     obtain⟨x0,x1,-,-⟩:=HY.box2 3 rfl
     have g1:=HY.ro q1 hbb
     have g2:=HY.ro q2 hbb
     have g3:=HY.ro q3 hbb
     have g4:=HY.ro q4 hbb
     refine hK.out _ _ (.inr (⟨⟨x0,x1⟩,g1,g2,g3,g4⟩)) ?_
     clear hK K
     clear x0 x1 g1 g2 g3 g4
     repeat first|(with_reducible apply po_take;(·(go_simp;done));(·(intro w' hS';(try dsimp only at hS');go_simp;try with_reducible rfl));simp only[lpa])|(with_reducible apply po_skip;(·(go_simp;done));simp only[lpa])
     refine po_done ?_
     obtain⟨x0,x1,x2,x3⟩:=HY.box2 3 rfl
     obtain⟨n0,n1,-,-⟩:=HY.box2 0 rfl
     have H7:=(((HY.putBox 3 rfl 0 (.slice C' T.cells.length kC')).putBox 3 rfl 1 (.slice R' T.roots.length kR'))).places [3,1,2,4] (by decide) (by simp)
     simp only[lfm,lsz]at H7
     clear HY H0 q1 q2 q3 q4
     go_wp2_with fail
     go_roundw
     case rel=>exact⟨k+1,C',R',kC',kR',rvs',T,by go_num,by omega,HE,HTG,H7⟩
     case measure=>simp[intOf];omega
   obtain⟨h1,hlen⟩:=hm
   have k3:(p.op == 1)=true:=by simp[h1]
   have k4:(L:Int)<=(h.cells.length:Int):=by omega
   have HST:=hid (fun h3=>runCp_stop hx HR.out h1 hlen h3)
   have HMV:=hid (fun h3=>runCp_moved hx HR.out h1 hlen h3)
   have GX:=hid (good_iff.1 (slide_mover.ok _ (good_iff.2 GG.out)))
   clear HR h1 hlen
   go_wp2_with fail
   refine (specSlideHeap_any _ _ _ h (H.rdH 1 2 rfl rfl) (good_iff.2 GG.out)).mono ?_
   rintro e w4 ⟨v1,rfl,ho,hb⟩
   obtain⟨cv,rvs',rv,rfl,K⟩:=H.madeH ho hb
   obtain⟨X,hX⟩:∃ X,X=mSlide h:=⟨_,rfl⟩
   rw[<-hX]at K HST HMV GX
   clear ho hb hX H x0 x1 x2 x3 g1 g2 g3 g4
   obtain⟨C,kC,rfl,-⟩:=K.formC 0 rfl
   obtain⟨R,kR,rfl,-⟩:=K.formI 1 rfl
   obtain⟨x0,x1,x2,x3⟩:=K.box2 2 rfl
   have H:=((K.putBox 2 rfl 0 (.slice C X.cells.length kC)).putBox 2 rfl 1 (.slice R X.roots.length kR)).places [2,0,1,5] (by decide) (by simp)
   simp only[lfm,lsz]at H
   obtain⟨v0,v1,-,-⟩:=H.box2 0 rfl
   have g1:=H.ro q1 hbb
   have g2:=H.ro q2 hbb
   have g3:=H.ro q3 hbb
   have g4:=H.ro q4 hbb
   clear K
   by_cases hs:L<=X.cells.length
   ·have HE:=hid (HST.out hs)
    have k5:(L:Int)<=(X.cells.length:Int):=by omega
    obtain⟨y0,y1,y2,y3⟩:=H.box2 3 rfl
    have HZ:=(H.putBox 3 rfl 0 (.slice C X.cells.length kC)).putBox 3 rfl 1 (.slice R X.roots.length kR)
    simp only[lnm]at HZ
    obtain⟨z0,z1,-,-⟩:=HZ.box2 3 rfl
    obtain⟨z2,-,-,-⟩:=(H.putBox 3 rfl 0 (.slice C X.cells.length kC)).box2 3 rfl
    have HS:Hid (MadeHBl w (mRunCpH mSlide cs (L:Int)) (mRunCpB mSlide cs (L:Int)) (.returned (.tuple #[.agg #[.slice C X.cells.length kC,.slice R X.roots.length kR],.bool false])) _):=hid (by rw[HF1.out,HF2.out,HE.out];exact⟨_,rvs',_,rfl,HZ.order [1,2] (by decide) rfl⟩)
    clear H HZ
    go_wp2
    exact bodyPost_ret (by simp[results,Tryz.results37,go_sem,z0,z1,z2]) rfl HS.out
   ·have HE:Hid (runCp mSlide L (mStep X p) (cs.drop (k+1))=RR):=hid (HMV.out hs)
    have k5:¬ (L:Int)<=(X.cells.length:Int):=by omega
    clear HST HMV hs v0 v1
    have GG':=GX
    have HTG:Hid (Good (mStep X p)):=hid (mStep_good GG'.out HP.out)
    go_wp2_with fail
    have HX:=H.drew
    have H0:=hid H
    clear H x0 x1 x2 x3 g1 g2 g3 g4
    obtain⟨x0,x1,-,-⟩:=HX.box2 0 rfl
    have g1:=HX.ro q1 hbb
    have g2:=HX.ro q2 hbb
    have g3:=HX.ro q3 hbb
    have g4:=HX.ro q4 hbb
    refine wp_region_tree (fun w'=>(w'.cell? ⟨w3.heap.size,0,none⟩=some (.slice C X.cells.length kC)/\w'.cell? ⟨w3.heap.size,1,none⟩=some (.slice R X.roots.length kR))/\w'.cell? ⟨b,o+k*4,none⟩=some (.int .i64 p.op)/\w'.cell? ⟨b,o+k*4+1,none⟩=some (.int .i64 p.a)/\w'.cell? ⟨b,o+k*4+2,none⟩=some (.int .i64 p.b)/\w'.cell? ⟨b,o+k*4+3,none⟩=some (.int .i64 p.c)) 12 [] (.take 0 (.take 1 (.take 2 (.take 3 (.take 4 (.alt 5 (.take 6 (.take 7 (.take 8 (.alt 9 (.alt 10 (.take 11 (.done)) (.stop)) (.stop))))) (.alt 9 (.alt 5 (.take 6 (.take 7 (.take 8 (.alt 10 (.take 11 (.done)) (.stop))))) (.stop)) (.stop)))))))) (by kernel_rfl) (by kernel_rfl) (by kernel_rfl) (⟨⟨x0,x1⟩,g1,g2,g3,g4⟩) ?_
    simp only[fillT,lgz,Nat.reduceBEq]
    repeat first|(with_reducible apply po_take;(·(go_simp;done));(·(intro w' hS';(try dsimp only at hS');go_simp;try with_reducible rfl));simp only[lpa])|(with_reducible apply po_skip;(·(go_simp;done));simp only[lpa])
    with_reducible refine po_run ?_ (fun K hK=>?_) ?_
    ·(go_simp;done)
    ·
     go_simp
     refine (stepHeap_any _ _ _ X (HX.rdH 1 2 rfl rfl) p GG'.out HP.out).mono ?_
     rintro e wa ⟨cv,rvs',rv,rfl,K⟩
     replace K:=HX.merge K
     simp only[lca]at K
     obtain⟨T,hT⟩:∃ T,T=mStep X p:=⟨_,rfl⟩
     rw[<-hT]at K HE HTG
     clear hT HX
     have HX:=K
     clear K
     obtain⟨C',kC',rfl,-⟩:=HX.formC 0 rfl
     obtain⟨R',kR',rfl,-⟩:=HX.formI 1 rfl
     clear x0 x1 g1 g2 g3 g4
     obtain⟨x0,x1,-,-⟩:=HX.box2 2 rfl
     have g1:=HX.ro q1 hbb
     have g2:=HX.ro q2 hbb
     have g3:=HX.ro q3 hbb
     have g4:=HX.ro q4 hbb
     refine hK.out _ _ (.inr (⟨⟨x0,x1⟩,g1,g2,g3,g4⟩)) ?_
     clear hK K
     repeat first|(with_reducible apply po_take;(·(go_simp;done));(·(intro w' hS';(try dsimp only at hS');go_simp;try with_reducible rfl));simp only[lpa])|(with_reducible apply po_skip;(·(go_simp;done));simp only[lpa])
     with_reducible refine po_last ?_ (fun K hK=>?_)
     ·(go_simp;done)
     go_simp
     have HP9:=HX
     replace HX:=HX.box [.slice none 0 0,.slice none 0 0] 29
     try simp only[drew_size,World.size_setCell]at HX
     clear x0 x1 g1 g2 g3 g4
     obtain⟨x0,x1,-,-⟩:=HX.box2 (1+2*1) rfl
     have g1:=HX.ro q1 hbb
     have g2:=HX.ro q2 hbb
     have g3:=HX.ro q3 hbb
     have g4:=HX.ro q4 hbb
     refine hK.out _ _ (.inr (⟨⟨x0,x1⟩,g1,g2,g3,g4⟩)) ?_
     clear hK K
     with_reducible refine po_last ?_ (fun K hK=>?_)
     ·(go_simp;done)
     go_simp
     have HZ:=HP9.box [.slice C' T.cells.length kC',.slice R' T.roots.length kR'] 29
     have HY:=HZ.places [0,1,2,3,6] (by decide) (by simp);simp only[lfm]at HY
     clear x0 x1 g1 g2 g3 g4 HX HZ HP9
     obtain⟨x0,x1,-,-⟩:=HY.box2 3 rfl
     have g1:=HY.ro q1 hbb
     have g2:=HY.ro q2 hbb
     have g3:=HY.ro q3 hbb
     have g4:=HY.ro q4 hbb
     refine hK.out _ _ (.inr (⟨⟨x0,x1⟩,g1,g2,g3,g4⟩)) ?_
     clear hK K
     clear x0 x1 g1 g2 g3 g4
     repeat first|(with_reducible apply po_take;(·(go_simp;done));(·(intro w' hS';(try dsimp only at hS');go_simp;try with_reducible rfl));simp only[lpa])|(with_reducible apply po_skip;(·(go_simp;done));simp only[lpa])
     refine po_done ?_
     obtain⟨x0,x1,x2,x3⟩:=HY.box2 3 rfl
     obtain⟨n0,n1,-,-⟩:=HY.box2 0 rfl
     have H7:=(((HY.putBox 3 rfl 0 (.slice C' T.cells.length kC')).putBox 3 rfl 1 (.slice R' T.roots.length kR'))).places [3,1,2,4] (by decide) (by simp)
     simp only[lfm,lsz]at H7
     clear HY H0 q1 q2 q3 q4
     go_wp2_with fail
     go_roundw
     case rel=>exact⟨k+1,C',R',kC',kR',rvs',T,by go_num,by omega,HE,HTG,H7⟩
     case measure=>simp[intOf];omega
    with_reducible refine po_last ?_ (fun K hK=>?_)
    ·(go_simp;done)
    go_simp
    have HP9:=HX
    replace HX:=HX.box [.slice none 0 0,.slice none 0 0] 29
    try simp only[drew_size,World.size_setCell]at HX
    clear x0 x1 g1 g2 g3 g4
    obtain⟨x0,x1,-,-⟩:=HX.box2 (1+2*0) rfl
    have g1:=HX.ro q1 hbb
    have g2:=HX.ro q2 hbb
    have g3:=HX.ro q3 hbb
    have g4:=HX.ro q4 hbb
    refine hK.out _ _ (.inr (⟨⟨x0,x1⟩,g1,g2,g3,g4⟩)) ?_
    clear hK K
    with_reducible refine po_last ?_ (fun K hK=>?_)
    ·(go_simp;done)
    go_simp
    refine (stepHeap_any _ _ _ X (HX.rdH 2 3 rfl rfl) p GG'.out HP.out).mono ?_
    rintro e wa ⟨cv,rvs',rv,rfl,K⟩
    replace K:=HX.merge K
    simp only[lca]at K
    obtain⟨T,hT⟩:∃ T,T=mStep X p:=⟨_,rfl⟩
    rw[<-hT]at K HE HTG
    clear hT HX
    have HX:=K
    clear K
    obtain⟨C',kC',rfl,-⟩:=HX.formC 0 rfl
    obtain⟨R',kR',rfl,-⟩:=HX.formI 1 rfl
    clear x0 x1 g1 g2 g3 g4
    obtain⟨x0,x1,-,-⟩:=HX.box2 3 rfl
    have g1:=HX.ro q1 hbb
    have g2:=HX.ro q2 hbb
    have g3:=HX.ro q3 hbb
    have g4:=HX.ro q4 hbb
    refine hK.out _ _ (.inr (⟨⟨x0,x1⟩,g1,g2,g3,g4⟩)) ?_
    clear hK K
    repeat first|(with_reducible apply po_take;(·(go_simp;done));(·(intro w' hS';(try dsimp only at hS');go_simp;try with_reducible rfl));simp only[lpa])|(with_reducible apply po_skip;(·(go_simp;done));simp only[lpa])
    with_reducible refine po_last ?_ (fun K hK=>?_)
    ·(go_simp;done)
    obtain⟨e0,e1,e2,e3⟩:=HX.box2 2 rfl
    go_simp
    have HZ:=(HX.putBox 2 rfl 0 (.slice C' T.cells.length kC')).putBox 2 rfl 1 (.slice R' T.roots.length kR')
    have HY:=HZ.places [2,0,1,3,6] (by decide) (by simp);simp only[lfm,lsz]at HY
    clear x0 x1 g1 g2 g3 g4 HX HZ HP9
    obtain⟨x0,x1,-,-⟩:=HY.box2 3 rfl
    have g1:=HY.ro q1 hbb
    have g2:=HY.ro q2 hbb
    have g3:=HY.ro q3 hbb
    have g4:=HY.ro q4 hbb
    refine hK.out _ _ (.inr (⟨⟨x0,x1⟩,g1,g2,g3,g4⟩)) ?_
    clear hK K
    clear x0 x1 g1 g2 g3 g4
    repeat first|(with_reducible apply po_take;(·(go_simp;done));(·(intro w' hS';(try dsimp only at hS');go_simp;try with_reducible rfl));simp only[lpa])|(with_reducible apply po_skip;(·(go_simp;done));simp only[lpa])
    refine po_done ?_
    obtain⟨x0,x1,x2,x3⟩:=HY.box2 3 rfl
    obtain⟨n0,n1,-,-⟩:=HY.box2 0 rfl
    have H7:=(((HY.putBox 3 rfl 0 (.slice C' T.cells.length kC')).putBox 3 rfl 1 (.slice R' T.roots.length kR'))).places [3,1,2,4] (by decide) (by simp)
    simp only[lfm,lsz]at H7
    clear HY H0 q1 q2 q3 q4
    go_wp2_with fail
    go_roundw
    case rel=>exact⟨k+1,C',R',kC',kR',rvs',T,by go_num,by omega,HE,HTG,H7⟩
    case measure=>simp[intOf];omega
  ·have HE:=hid (runCp_out (by omega) HR.out)
   obtain⟨y0,y1,y2,y3⟩:=H.box2 3 rfl
   have HZ:=(H.putBox 3 rfl 0 (.slice C h.cells.length kC)).putBox 3 rfl 1 (.slice R h.roots.length kR)
   simp only[lnm]at HZ
   obtain⟨z0,z1,-,-⟩:=HZ.box2 3 rfl
   obtain⟨z2,-,-,-⟩:=(H.putBox 3 rfl 0 (.slice C h.cells.length kC)).box2 3 rfl
   have HS:Hid (MadeHBl w (mRunCpH mSlide cs (L:Int)) (mRunCpB mSlide cs (L:Int)) (.returned (.tuple #[.agg #[.slice C h.cells.length kC,.slice R h.roots.length kR],.bool true])) _):=hid (by rw[HF1.out,HF2.out,HE.out];exact⟨_,rvs,_,rfl,HZ.order [1,2] (by decide) rfl⟩)
   clear H HZ
   go_wp2
   exact bodyPost_ret (by simp[results,Tryz.results37,go_sem,z0,z1,z2]) rfl HS.out
set_option maxHeartbeats 6400000 in
set_option maxRecDepth 20000 in
theorem specPaintValid_yes (w:World) (B:Nat) (v:Value) (p:Pt) (hh:RdPt w B v p) (P:PtOk p):
  Calls Tryz.prog 99 #[v] w fun e w'=>e=.returned (.bool true)/\Below w.heap.size w w':=by
 obtain⟨D,m,d,D',m',d',E,q,f,rfl,hC,hR,hE⟩:=hh.top
 obtain⟨t1,t2,t3,HN3⟩:=pt_small P
 have hst:RdH w w.heap.size (.agg #[.slice D m d,.slice D' m' d']) p.store:=⟨_,_,_,_,_,_,rfl,hC,hR⟩
 have l1:=RdI.le1 hE;have l2:=RdI.le2 hE
 have l5:=hC.le1;have l6:=hC.le2
 have l7:=RdI.le1 hR;have l8:=RdI.le2 hR
 obtain rfl:q=m:=by have:=P.len;omega
 have HP:=hid P
 have HOk:=hid (good_iff.2 P.good)
 have HLd:=hid (pt_leads P)
 have HqL:Hid (p.cols.length=q):=hid (by omega)
 have HR3:Hid (∀ (c:Nat) (l:Cel),p.store.cells[c]?=some l->l.refs.length<=3):=hid fun c l hl=>(refs3 (good_iff.2 P.good) hl).1
 have hqq:q<=40:=by omega
 have H:=((Owns.nil w).box [.slice D q d,.slice D' m' d',.slice E q f,.bool p.act] 109).box [.slice D q d,.slice D' m' d'] 29
 simp only[lnm]at H
 obtain⟨⟨a0,a1⟩,a2,a3⟩:=box4s H 1 rfl
 obtain⟨h0,h1,-,-⟩:=H.box2 0 rfl
 clear P
 go_enter Tryz.func99,Tryz.ntmps99
 go_wp2_with fail
 refine (specHeapValid_any _ _ _ p.store (hst.below H.below)).mono ?_
 rintro e w1 ⟨rfl,hb⟩
 rw[HOk.out]
 replace H:=H.call hb
 clear hb a0 a1 a2 a3 h0 h1
 obtain⟨⟨a0,a1⟩,a2,a3⟩:=box4s H 1 rfl
 obtain⟨h0,h1,-,-⟩:=H.box2 0 rfl
 go_wp2_with fail
 clear a0 a1 a2 a3 h0 h1
 go_loopw [4] (fun i wr=>∃ k:Nat,i=.int .i64 k/\k<=q/\Owns w.heap.size w wr [.box (w.heap.size+1) [.slice D q d,.slice D' m' d'] 29,.box w.heap.size [.slice D q d,.slice D' m' d',.slice E q f,.bool p.act] 109]) (fun i _=>q - (intOf i).toNat)
 case atStart=>exact⟨0,rfl,Nat.zero_le _,H⟩
 case round =>
  clear H
  obtain⟨k,rfl,hk,H⟩:=hrel
  obtain⟨⟨a0,a1⟩,a2,a3⟩:=box4s H 1 rfl
  obtain⟨h0,h1,-,-⟩:=H.box2 0 rfl
  by_cases hlt:k<q
  ·obtain⟨bC,oC,l,A2,n2,c2,rfl,hbb,hx,q1,q2,q3,hrf⟩:=hC.at_ hlt
   obtain⟨bE,oE,z,rfl,hbE,hz,p1⟩:=RdI.at_ hE hlt
   have g1:=H.ro q1 hbb
   have g2:=H.ro q2 hbb
   have g3:=H.ro q3 hbb
   have g4:=H.ro p1 hbE
   have HCo:=pt_colour HP.out hz.out hx.out
   have hf3:=HR3.out k l hx.out
   have r1:=RdI.le1 hrf;have r2:=RdI.le2 hrf
   have HB:Hid (z=2->∀ r∈l.refs,0<=r->r.toNat<q/\colA p.cols r.toNat≠0):=hid fun e r hr h0=>⟨by rw[<-HqL.out];exact HLd.out.2 k l hx.out r hr h0,HP.out.black k l hx.out (by rw[colA_at hz.out];exact e) r hr h0⟩
   have hin:inR z 0 2=true:=by unfold inR;simp;omega
   clear hx hz
   rcases HCo with z0|⟨z0,u1,u2⟩
   ·have z3:(z != 0)=false:=by simp[z0]
    have z4:(z == 2)=false:=by simp[z0]
    cases hu:l.used
    ·rcases Bool.eq_false_or_eq_true p.act with ha|ha
     ·skip
      rw[hu]at g1
      rw[ha]at a3
      have HX:=hid ha
      clear ha hu z0
      go_wp2_with (((with_reducible refine (l1In_b _ _ _ _).mono ?_);rintro e w' ⟨rfl,hw⟩;obtain rfl:=hw;rw[hin]))
      go_loopw [5] (fun i ws=>i=.int .i64 0/\Owns w.heap.size w ws [.box (w.heap.size+1) [.slice (some ⟨bC,oC,none⟩) q d,.slice D' m' d'] 29,.box w.heap.size [.slice (some ⟨bC,oC,none⟩) q d,.slice D' m' d',.slice (some ⟨bE,oE,none⟩) q f,.bool p.act] 109]) (fun _ _=>0)
      case atStart=>exact⟨rfl,H⟩
      case round =>
       clear H a0 a1 a2 a3 h0 h1 g1 g2 g3 g4
       obtain⟨rfl,H⟩:=hrel
       obtain⟨⟨a0,a1⟩,a2,a3⟩:=box4s H 1 rfl
       obtain⟨h0,h1,-,-⟩:=H.box2 0 rfl
       have g3:=H.ro q3 hbb
       have g4:=H.ro p1 hbE
       rw[HX.out]at a3
       clear q1 q2 q3 p1 HB HX
       by_cases hn2:0<n2
       ·go_wp2
        go_roundw
        case rel=>exact⟨k+1,by go_num,by omega,H⟩
        case measure=>simp[intOf];omega
       ·go_wp2
        go_roundw
        case rel=>exact⟨k+1,by go_num,by omega,H⟩
        case measure=>simp[intOf];omega
     ·skip
      rw[hu]at g1
      rw[ha]at a3
      have HX:=hid ha
      clear ha hu z0
      go_wp2_with (((with_reducible refine (l1In_b _ _ _ _).mono ?_);rintro e w' ⟨rfl,hw⟩;obtain rfl:=hw;rw[hin]))
      go_loopw [5] (fun i ws=>i=.int .i64 0/\Owns w.heap.size w ws [.box (w.heap.size+1) [.slice (some ⟨bC,oC,none⟩) q d,.slice D' m' d'] 29,.box w.heap.size [.slice (some ⟨bC,oC,none⟩) q d,.slice D' m' d',.slice (some ⟨bE,oE,none⟩) q f,.bool p.act] 109]) (fun _ _=>0)
      case atStart=>exact⟨rfl,H⟩
      case round =>
       clear H a0 a1 a2 a3 h0 h1 g1 g2 g3 g4
       obtain⟨rfl,H⟩:=hrel
       obtain⟨⟨a0,a1⟩,a2,a3⟩:=box4s H 1 rfl
       obtain⟨h0,h1,-,-⟩:=H.box2 0 rfl
       have g3:=H.ro q3 hbb
       have g4:=H.ro p1 hbE
       rw[HX.out]at a3
       clear q1 q2 q3 p1 HB HX
       by_cases hn2:0<n2
       ·go_wp2
        go_roundw
        case rel=>exact⟨k+1,by go_num,by omega,H⟩
        case measure=>simp[intOf];omega
       ·go_wp2
        go_roundw
        case rel=>exact⟨k+1,by go_num,by omega,H⟩
        case measure=>simp[intOf];omega
    ·rcases Bool.eq_false_or_eq_true p.act with ha|ha
     ·skip
      rw[hu]at g1
      rw[ha]at a3
      have HX:=hid ha
      clear ha hu z0
      go_wp2_with (((with_reducible refine (l1In_b _ _ _ _).mono ?_);rintro e w' ⟨rfl,hw⟩;obtain rfl:=hw;rw[hin]))
      go_loopw [5] (fun i ws=>i=.int .i64 0/\Owns w.heap.size w ws [.box (w.heap.size+1) [.slice (some ⟨bC,oC,none⟩) q d,.slice D' m' d'] 29,.box w.heap.size [.slice (some ⟨bC,oC,none⟩) q d,.slice D' m' d',.slice (some ⟨bE,oE,none⟩) q f,.bool p.act] 109]) (fun _ _=>0)
      case atStart=>exact⟨rfl,H⟩
      case round =>
       clear H a0 a1 a2 a3 h0 h1 g1 g2 g3 g4
       obtain⟨rfl,H⟩:=hrel
       obtain⟨⟨a0,a1⟩,a2,a3⟩:=box4s H 1 rfl
       obtain⟨h0,h1,-,-⟩:=H.box2 0 rfl
       have g3:=H.ro q3 hbb
       have g4:=H.ro p1 hbE
       rw[HX.out]at a3
       clear q1 q2 q3 p1 HB HX
       by_cases hn2:0<n2
       ·go_wp2
        go_roundw
        case rel=>exact⟨k+1,by go_num,by omega,H⟩
        case measure=>simp[intOf];omega
       ·go_wp2
        go_roundw
        case rel=>exact⟨k+1,by go_num,by omega,H⟩
        case measure=>simp[intOf];omega
     ·skip
      rw[hu]at g1
      rw[ha]at a3
      have HX:=hid ha
      clear ha hu z0
      go_wp2_with (((with_reducible refine (l1In_b _ _ _ _).mono ?_);rintro e w' ⟨rfl,hw⟩;obtain rfl:=hw;rw[hin]))
      go_loopw [5] (fun i ws=>i=.int .i64 0/\Owns w.heap.size w ws [.box (w.heap.size+1) [.slice (some ⟨bC,oC,none⟩) q d,.slice D' m' d'] 29,.box w.heap.size [.slice (some ⟨bC,oC,none⟩) q d,.slice D' m' d',.slice (some ⟨bE,oE,none⟩) q f,.bool p.act] 109]) (fun _ _=>0)
      case atStart=>exact⟨rfl,H⟩
      case round =>
       clear H a0 a1 a2 a3 h0 h1 g1 g2 g3 g4
       obtain⟨rfl,H⟩:=hrel
       obtain⟨⟨a0,a1⟩,a2,a3⟩:=box4s H 1 rfl
       obtain⟨h0,h1,-,-⟩:=H.box2 0 rfl
       have g3:=H.ro q3 hbb
       have g4:=H.ro p1 hbE
       rw[HX.out]at a3
       clear q1 q2 q3 p1 HB HX
       by_cases hn2:0<n2
       ·go_wp2
        go_roundw
        case rel=>exact⟨k+1,by go_num,by omega,H⟩
        case measure=>simp[intOf];omega
       ·go_wp2
        go_roundw
        case rel=>exact⟨k+1,by go_num,by omega,H⟩
        case measure=>simp[intOf];omega
   ·have z3:(z != 0)=true:=by simp;omega
    rw[u1]at g1
    rw[u2]at a3
    have HX:=hid u2
    clear u1 u2
    by_cases zz:z=2
    ·have z4:(z == 2)=true:=by simp[zz]
     have HB2:=hid (HB.out zz)
     clear zz z0
     go_wp2_with (((with_reducible refine (l1In_b _ _ _ _).mono ?_);rintro e w' ⟨rfl,hw⟩;obtain rfl:=hw;rw[hin]))
     go_loopw [5] (fun i ws=>∃ j:Nat,i=.int .i64 j/\j<=n2/\Owns w.heap.size w ws [.box (w.heap.size+1) [.slice (some ⟨bC,oC,none⟩) q d,.slice D' m' d'] 29,.box w.heap.size [.slice (some ⟨bC,oC,none⟩) q d,.slice D' m' d',.slice (some ⟨bE,oE,none⟩) q f,.bool p.act] 109]) (fun i _=>n2 - (intOf i).toNat)
     case atStart=>exact⟨0,rfl,Nat.zero_le _,H⟩
     case round =>
      clear H a0 a1 a2 a3 h0 h1 g1 g2 g3 g4
      obtain⟨j,rfl,hj,H⟩:=hrel
      obtain⟨⟨a0,a1⟩,a2,a3⟩:=box4s H 1 rfl
      obtain⟨h0,h1,-,-⟩:=H.box2 0 rfl
      have g3:=H.ro q3 hbb
      have g4:=H.ro p1 hbE
      rw[HX.out]at a3
      clear q1 q2 q3 p1 HB HX
      by_cases hlj:j<n2
      ·obtain⟨b,o,y,rfl,hb2,hy,p2⟩:=RdI.at_ hrf hlj
       have g5:=H.ro p2 hb2
       have hn:=HB2.out y (List.mem_of_getElem? hy.out)
       clear p2 hy
       by_cases y0:y<0
       ·have y1:¬ (0:Int)<=y:=by omega
        clear hn
        go_wp2
        go_roundw
        case rel=>exact⟨j+1,by go_num,by omega,H⟩
        case measure=>simp[intOf];omega
       obtain⟨qq,rfl⟩:=Int.eq_ofNat_of_zero_le (by omega:0<=y)
       have y1:(0:Int)<=(qq:Int):=by omega
       obtain⟨n1,n2'⟩:=hn y1
       simp only[Int.toNat_natCast]at n1 n2'
       have y2:(qq:Int)<(q:Int):=by omega
       obtain⟨bE',oE',z',eE,hbE',hz',p3⟩:=RdI.at_ hE n1
       simp only[Option.some.injEq,Addr.mk.injEq,and_true]at eE
       obtain⟨rfl,rfl⟩:=eE
       rw[colA_at hz'.out]at n2'
       have g6:=H.ro p3 hbE
       have z5:(z' == 0)=false:=by simp[n2']
       clear hz' p3 hn
       go_wp2
       go_roundw
       case rel=>exact⟨j+1,by go_num,by omega,H⟩
       case measure=>simp[intOf];omega
      ·go_wp2
       go_roundw
       case rel=>exact⟨k+1,by go_num,by omega,H⟩
       case measure=>simp[intOf];omega
    ·have z4:(z == 2)=false:=by simp[zz]
     clear zz z0
     go_wp2_with (((with_reducible refine (l1In_b _ _ _ _).mono ?_);rintro e w' ⟨rfl,hw⟩;obtain rfl:=hw;rw[hin]))
     go_loopw [5] (fun i ws=>i=.int .i64 0/\Owns w.heap.size w ws [.box (w.heap.size+1) [.slice (some ⟨bC,oC,none⟩) q d,.slice D' m' d'] 29,.box w.heap.size [.slice (some ⟨bC,oC,none⟩) q d,.slice D' m' d',.slice (some ⟨bE,oE,none⟩) q f,.bool p.act] 109]) (fun _ _=>0)
     case atStart=>exact⟨rfl,H⟩
     case round =>
      clear H a0 a1 a2 a3 h0 h1 g1 g2 g3 g4
      obtain⟨rfl,H⟩:=hrel
      obtain⟨⟨a0,a1⟩,a2,a3⟩:=box4s H 1 rfl
      obtain⟨h0,h1,-,-⟩:=H.box2 0 rfl
      have g3:=H.ro q3 hbb
      have g4:=H.ro p1 hbE
      rw[HX.out]at a3
      clear q1 q2 q3 p1 HB HX
      by_cases hn2:0<n2
      ·go_wp2
       go_roundw
       case rel=>exact⟨k+1,by go_num,by omega,H⟩
       case measure=>simp[intOf];omega
      ·go_wp2
       go_roundw
       case rel=>exact⟨k+1,by go_num,by omega,H⟩
       case measure=>simp[intOf];omega
  ·go_wp2_with fail
   clear a0 a1 a2 a3 h0 h1
   go_loopw [7] (fun i wr=>∃ k:Nat,i=.int .i64 k/\k<=m'/\Owns w.heap.size w wr [.box (w.heap.size+1) [.slice D q d,.slice D' m' d'] 29,.box w.heap.size [.slice D q d,.slice D' m' d',.slice E q f,.bool p.act] 109]) (fun i _=>m' - (intOf i).toNat)
   case atStart=>exact⟨0,rfl,Nat.zero_le _,H⟩
   case round =>
    clear H
    obtain⟨k,rfl,hk,H⟩:=hrel
    obtain⟨⟨a0,a1⟩,a2,a3⟩:=box4s H 1 rfl
    obtain⟨h0,h1,-,-⟩:=H.box2 0 rfl
    by_cases hlm:k<m'
    ·obtain⟨b,o,y,rfl,hbb,hy,p1⟩:=RdI.at_ hR hlm
     have g1:=H.ro p1 hbb
     have hm:=List.mem_of_getElem? hy.out
     rcases Bool.eq_false_or_eq_true p.act with ha|ha
     ·have HRt:=HP.out.root ha y hm
      have HRl:=HLd.out.1 y hm
      rw[ha]at a3
      clear ha hy hm p1
      by_cases y0:y<0
      ·have y1:¬ (0:Int)<=y:=by omega
       clear HRt HRl
       go_wp2
       go_roundw
       case rel=>exact⟨k+1,by go_num,by omega,H⟩
       case measure=>simp[intOf];omega
      obtain⟨qq,rfl⟩:=Int.eq_ofNat_of_zero_le (by omega:0<=y)
      have y1:(0:Int)<=(qq:Int):=by omega
      have n1:=HRt y1
      have n2:=HRl y1
      rw[HqL.out]at n2
      simp only[Int.toNat_natCast]at n1 n2
      have y2:(qq:Int)<(q:Int):=by omega
      obtain⟨bE,oE,z,rfl,hbE,hz,p2⟩:=RdI.at_ hE n2
      rw[colA_at hz.out]at n1
      have g2:=H.ro p2 hbE
      have z5:(z == 0)=false:=by simp[n1]
      clear hz p2 HRt HRl
      go_wp2
      go_roundw
      case rel=>exact⟨k+1,by go_num,by omega,H⟩
      case measure=>simp[intOf];omega
     ·rw[ha]at a3
      clear ha hy hm p1
      go_wp2
      go_roundw
      case rel=>exact⟨k+1,by go_num,by omega,H⟩
      case measure=>simp[intOf];omega
    ·have HB:=hid H.below
     clear H
     go_wp2
     exact bodyPost_ret (v:=.bool true) (by simp[results,Tryz.results99,go_sem]) rfl ⟨rfl,HB.out⟩
set_option maxHeartbeats 3200000 in
set_option maxRecDepth 20000 in
theorem l18Copy_any (w:World) (B:Nat) (v:Value) (p:Pt) (hh:RdPt w B v p) (P:PtOk p):
  Calls Tryz.prog 100 #[v] w (MadePt w p):=by
 obtain⟨D,m,d,D',m',d',E,q,f,rfl,hC,hR,hE⟩:=hh.top
 obtain⟨t1,t2,t3,HN3⟩:=pt_small P
 replace t1:p.store.cells.length<=1048576:=by omega
 replace t2:p.store.roots.length<=1048576:=by omega
 have hst:RdH w w.heap.size (.agg #[.slice D m d,.slice D' m' d']) p.store:=⟨_,_,_,_,_,_,rfl,hC,hR⟩
 have l1:=RdI.le1 hE
 have e1:([]:List Int).length+q<=1099511627776:=by simp;omega
 have H:=((Owns.nil w).box [.slice D m d,.slice D' m' d',.slice E q f,.bool p.act] 109).box [.slice none 0 0,.slice none 0 0,.slice none 0 0,.bool false] 109
 simp only[lnm]at H
 clear P
 go_enter Tryz.func100,Tryz.ntmps100
 go_wp2_with fail
 have HX:=H.drew
 clear H
 have hs:=box4s HX 1 rfl
 refine wp_region_tree (fun w'=>(w'.cell? ⟨w.heap.size,0,none⟩=some (.slice D m d)/\w'.cell? ⟨w.heap.size,1,none⟩=some (.slice D' m' d'))/\w'.cell? ⟨w.heap.size,2,none⟩=some (.slice E q f)/\w'.cell? ⟨w.heap.size,3,none⟩=some (.bool p.act)) 10 [] (.take 0 (.take 1 (.take 4 (.take 5 (.take 7 (.take 8 (.alt 2 (.alt 3 (.alt 6 (.take 9 (.alt 10 (.done) (.stop))) (.stop)) (.stop)) (.alt 3 (.alt 2 (.alt 6 (.take 9 (.alt 10 (.done) (.stop))) (.stop)) (.stop)) (.stop))))))))) (by kernel_rfl) (by kernel_rfl) (by kernel_rfl) (hs) ?_
 simp only[fillT,lgz,Nat.reduceBEq]
 repeat first|(with_reducible apply po_take;(·(go_simp;done));(·(intro w' hS';(try dsimp only at hS');go_simp;try with_reducible rfl));simp only[lpa])|(with_reducible apply po_skip;(·(go_simp;done));simp only[lpa])
 with_reducible refine po_run ?_ (fun K hK=>?_) ?_
 ·(go_simp;done)
 ·
  revert HX hs;generalize World.drew _=wd;intro HX hs
  go_simp
  refine (l7Copy_any _ _ _ p.store (hst.below HX.below) t1 t2 HN3.out).mono ?_
  rintro e w1 ⟨v1,rfl,ho,hb⟩
  obtain⟨cv,rvs,rv,rfl,HY⟩:=HX.madeH ho hb
  obtain⟨C,kC,rfl,-⟩:=HY.formC 0 rfl
  obtain⟨R,kR,rfl,-⟩:=HY.formI 1 rfl
  replace hs:=four_keep hs hb
  replace HX:=HY
  clear HY ho hb
  refine hK.out _ _ (.inr (hs)) ?_
  clear hK K
  with_reducible refine po_last ?_ (fun K hK=>?_)
  ·(go_simp;done)
  go_simp
  replace HX:=HX.litI [] zero_le_maxLen
  simp only[List.map_nil,List.length_nil]at HX
  replace hs:=four_keep hs (below_alloc _ (.cells #[] 3))
  revert HX hs
  generalize World.alloc _ _=wz
  intro HX hs
  refine hK.out _ _ (.inr (hs)) ?_
  clear hK K
  with_reducible refine po_last ?_ (fun K hK=>?_)
  ·(go_simp;done)
  refine wp_pushO (.tmp 6) (.tmp 8) rfl HX (2*0) rfl rfl rfl (hE.below HX.below) e1 ?_
  clear HX hs
  intro A5 k5 w5 HX
  have hs:=box4s HX (1+1+2*1) rfl
  refine hK.out _ _ (.inr (hs)) ?_
  clear hK K
  repeat first|(with_reducible apply po_take;(·(go_simp;done));(·(intro w' hS';(try dsimp only at hS');go_simp;try with_reducible rfl));simp only[lpa])|(with_reducible apply po_skip;(·(go_simp;done));simp only[lpa])
  with_reducible refine po_last ?_ (fun K hK=>?_)
  ·(go_simp;done)
  have HZ:=HX.order [1,2,0,3] (L':=[.cells (.slice C p.store.cells.length kC) rvs p.store.cells,.ints (.slice R p.store.roots.length kR) p.store.roots,.ints (.slice A5 p.cols.length k5) p.cols,.box (w.heap.size+1) [.slice none 0 0,.slice none 0 0,.slice none 0 0,.bool false] 109]) (by decide) rfl
  obtain⟨y0,y1,y2,y3,y4,y5,y6,y7⟩:=box4 HZ 3 rfl
  go_simp
  have HW:=(((HZ.putBox 3 rfl 0 (.slice C p.store.cells.length kC)).putBox 3 rfl 1 (.slice R p.store.roots.length kR)).putBox 3 rfl 2 (.slice A5 p.cols.length k5)).putBox 3 rfl 3 (.bool p.act)
  simp only[lsz]at HW
  refine hK.out _ _ (.inl rfl) ?_
  clear hK K
  refine po_done ?_
  obtain⟨z0,z1,z2,z3,-,-,-,-⟩:=box4 HW 3 rfl
  have HS:Hid (MadePt w p (.returned (.agg #[.slice C p.store.cells.length kC,.slice R p.store.roots.length kR,.slice A5 p.cols.length k5,.bool p.act])) _):=hid ⟨_,rvs,_,_,rfl,HW.take 3⟩
  clear HZ HX HW hs
  go_wp2
  exact bodyPost_ret (by simp[results,Tryz.results100,go_sem,z0,z1,z2,z3]) rfl HS.out
 with_reducible refine po_last ?_ (fun K hK=>?_)
 ·(go_simp;done)
 revert HX hs;generalize World.drew _=wd;intro HX hs
 go_simp
 replace HX:=HX.litI [] zero_le_maxLen
 simp only[List.map_nil,List.length_nil]at HX
 replace hs:=four_keep hs (below_alloc _ (.cells #[] 3))
 revert HX hs
 generalize World.alloc _ _=wz
 intro HX hs
 refine hK.out _ _ (.inr (hs)) ?_
 clear hK K
 with_reducible refine po_last ?_ (fun K hK=>?_)
 ·(go_simp;done)
 go_simp
 refine (l7Copy_any _ _ _ p.store (hst.below HX.below) t1 t2 HN3.out).mono ?_
 rintro e w1 ⟨v1,rfl,ho,hb⟩
 obtain⟨cv,rvs,rv,rfl,HY⟩:=HX.madeH ho hb
 obtain⟨C,kC,rfl,-⟩:=HY.formC 0 rfl
 obtain⟨R,kR,rfl,-⟩:=HY.formI 1 rfl
 replace hs:=four_keep hs hb
 replace HX:=HY
 clear HY ho hb
 refine hK.out _ _ (.inr (hs)) ?_
 clear hK K
 with_reducible refine po_last ?_ (fun K hK=>?_)
 ·(go_simp;done)
 refine wp_pushO (.tmp 6) (.tmp 8) rfl HX (2*1) rfl rfl rfl (hE.below HX.below) e1 ?_
 clear HX hs
 intro A5 k5 w5 HX
 have hs:=box4s HX (1+1+2*1) rfl
 refine hK.out _ _ (.inr (hs)) ?_
 clear hK K
 repeat first|(with_reducible apply po_take;(·(go_simp;done));(·(intro w' hS';(try dsimp only at hS');go_simp;try with_reducible rfl));simp only[lpa])|(with_reducible apply po_skip;(·(go_simp;done));simp only[lpa])
 with_reducible refine po_last ?_ (fun K hK=>?_)
 ·(go_simp;done)
 have HZ:=HX.order [0,1,2,3] (L':=[.cells (.slice C p.store.cells.length kC) rvs p.store.cells,.ints (.slice R p.store.roots.length kR) p.store.roots,.ints (.slice A5 p.cols.length k5) p.cols,.box (w.heap.size+1) [.slice none 0 0,.slice none 0 0,.slice none 0 0,.bool false] 109]) (by decide) rfl
 obtain⟨y0,y1,y2,y3,y4,y5,y6,y7⟩:=box4 HZ 3 rfl
 go_simp
 have HW:=(((HZ.putBox 3 rfl 0 (.slice C p.store.cells.length kC)).putBox 3 rfl 1 (.slice R p.store.roots.length kR)).putBox 3 rfl 2 (.slice A5 p.cols.length k5)).putBox 3 rfl 3 (.bool p.act)
 simp only[lsz]at HW
 refine hK.out _ _ (.inl rfl) ?_
 clear hK K
 refine po_done ?_
 obtain⟨z0,z1,z2,z3,-,-,-,-⟩:=box4 HW 3 rfl
 have HS:Hid (MadePt w p (.returned (.agg #[.slice C p.store.cells.length kC,.slice R p.store.roots.length kR,.slice A5 p.cols.length k5,.bool p.act])) _):=hid ⟨_,rvs,_,_,rfl,HW.take 3⟩
 clear HZ HX HW hs
 go_wp2
 exact bodyPost_ret (by simp[results,Tryz.results100,go_sem,z0,z1,z2,z3]) rfl HS.out
set_option maxHeartbeats 3200000 in
set_option maxRecDepth 20000 in
theorem grey1_own {lo:Nat}{w0 w:World}{L:List OB}{C R E:Option Addr}{n m q kC kR k:Nat}{b:Bool}{cols:List Int}(H:Owns lo w0 w (.rowN (.slice E q k) q cols::L)) (hq:cols.length=q) (y:Int) (hl:0<=y->y.toNat<q) (hq4:q<=1048576):
  Calls Tryz.prog 101 #[.agg #[.slice C n kC,.slice R m kR,.slice E q k,.bool b],.int .i64 y] w fun e w' =>
   (∃ u,e=.returned u)/\Owns lo w0 w' (.rowN (.slice E q k) q (greyI cols y)::L):=by
 have H0:=H.box [.slice C n kC,.slice R m kR,.slice E q k,.bool b] 109
 clear H
 have HD:=H0.erase 0
 simp only[List.eraseIdx_cons_zero]at HD
 by_cases y0:y<0
 ·have HT:=hid (greyI_neg (cs:=cols) y0)
  have y1:¬ (0:Int)<=y:=by omega
  clear hl
  go_enter Tryz.func101,Tryz.ntmps101
  go_wp2
  refine bodyPost_end (results_none rfl _ _ _) rfl ?_
  exact⟨⟨_,rfl⟩,by rw[HT.out];exact HD⟩
 obtain⟨qq,rfl⟩:=Int.eq_ofNat_of_zero_le (by omega:0<=y)
 have y1:(0:Int)<=(qq:Int):=by omega
 have hqq:=hl y1
 simp only[Int.toNat_natCast]at hqq
 have y2:(qq:Int)<(q:Int):=by omega
 obtain⟨z,hz⟩:∃ z,Hid (cols[qq]?=some z):=⟨_,hid (List.getElem?_eq_getElem (by omega))⟩
 obtain⟨gV,cV,e,-,-,-,-⟩:=H0.rowAt 1 rfl (by omega)
 simp only[Value.slice.injEq,true_and]at e
 obtain⟨rfl,rfl⟩:=e
 obtain⟨m0,mf⟩:=H0.elem 1 rfl (j:=qq) (u:=.int .i64 z) (by rw[List.getElem?_map,hz.out];rfl)
 obtain⟨⟨a0,a1⟩,a2,a3⟩:=box4s H0 0 rfl
 have hzc:=colA_at hz.out
 clear hl hz
 by_cases z0:z=0
 ·have HT:=hid (greyI_on (cs:=cols) (n:=qq) (by rw[hzc];exact z0))
  have k1:(z == 0)=true:=by simp[z0]
  have H2:=(H0.putN 1 rfl qq 1).erase 0
  simp only[lsz,List.eraseIdx_cons_zero]at H2
  have HO:=hid H2
  clear hzc z0 H0 H2 HD
  go_enter Tryz.func101,Tryz.ntmps101
  go_wp2
  refine bodyPost_end (results_none rfl _ _ _) rfl ?_
  exact⟨⟨_,rfl⟩,by rw[HT.out];exact HO.out⟩
 ·have HT:=hid (greyI_off (cs:=cols) (n:=qq) (by rw[hzc];exact z0))
  have k1:(z == 0)=false:=by simp[z0]
  clear hzc z0
  go_enter Tryz.func101,Tryz.ntmps101
  go_wp2
  refine bodyPost_end (results_none rfl _ _ _) rfl ?_
  exact⟨⟨_,rfl⟩,by rw[HT.out];exact HD⟩
set_option maxHeartbeats 3200000 in
set_option maxRecDepth 20000 in
theorem specPaintStart_any (w:World) (B:Nat) (v:Value) (p:Pt) (hh:RdPt w B v p) (P:PtOk p):
  Calls Tryz.prog 70 #[v] w (MadePt w (ptStart p)):=by
 have hh':=hh.top
 obtain⟨D,m,d,D',m',d',E,q,f,rfl,hC,hR,hE⟩:=hh.top
 obtain⟨t1,t2,t3,HN3⟩:=pt_small P
 have HP:=hid P
 have HLd:=hid (pt_leads P)
 have H:=((Owns.nil w).box [.slice D m d,.slice D' m' d',.slice E q f,.bool p.act] 109).box [.slice none 0 0,.slice none 0 0,.slice none 0 0,.bool false] 109
 simp only[lnm]at H
 obtain⟨⟨a0,a1⟩,a2,a3⟩:=box4s H 1 rfl
 clear P
 go_enter Tryz.func70,Tryz.ntmps70
 go_wp2_with fail
 refine (specPaintValid_yes _ _ _ p (hh'.below H.below) HP.out).mono ?_
 rintro e w1 ⟨rfl,hb⟩
 replace H:=H.call hb
 clear hb a0 a1 a2 a3
 obtain⟨⟨a0,a1⟩,a2,a3⟩:=box4s H 1 rfl
 go_wp2_with fail
 refine (l18Copy_any _ _ _ p (hh'.below H.below) HP.out).mono ?_
 rintro e w3 ⟨cv,rvs,rv,ov,rfl,K⟩
 replace K:=H.merge K
 simp only[lca]at K
 obtain⟨C,kC,rfl,-⟩:=K.formC 0 rfl
 obtain⟨R,kR,rfl,-⟩:=K.formI 1 rfl
 obtain⟨V,kV,rfl,-⟩:=K.formI 2 rfl
 clear H a0 a1 a2 a3
 have H:=K.box [.slice C p.store.cells.length kC,.slice R p.store.roots.length kR,.slice V p.cols.length kV,.bool p.act] 109
 obtain⟨⟨b0,b1⟩,b2,b3⟩:=box4s H 5 rfl
 obtain⟨x0,x1,x2,x3,x4,x5,x6,x7⟩:=box4 H 0 rfl
 rcases Bool.eq_false_or_eq_true p.act with ha|ha
 ·have HE:=hid (start_eq ha)
  replace b3:=b3.trans (congrArg (fun b=>some (Value.bool b)) ha)
  clear ha K
  obtain⟨y0,y1,y2,y3,y4,y5,y6,y7⟩:=box4 H 4 rfl
  have HZ:=(((H.putBox 4 rfl 0 (.slice C p.store.cells.length kC)).putBox 4 rfl 1 (.slice R p.store.roots.length kR)).putBox 4 rfl 2 (.slice V p.cols.length kV)).putBox 4 rfl 3 (.bool p.act)
  simp only[lsz]at HZ
  obtain⟨z0,z1,z2,z3,-,-,-,-⟩:=box4 HZ 4 rfl
  have HS:Hid (MadePt w (ptStart p) (.returned (.agg #[.slice C p.store.cells.length kC,.slice R p.store.roots.length kR,.slice V p.cols.length kV,.bool p.act])) _):=hid (by rw[HE.out];exact⟨_,rvs,_,_,rfl,HZ.order [1,2,3] (by decide) rfl⟩)
  clear H HZ
  go_wp2
  exact bodyPost_ret (by simp[results,Tryz.results70,go_sem,z0,z1,z2,z3]) rfl HS.out
 ·have HE:=hid (start_ne ha)
  replace b3:=b3.trans (congrArg (fun b=>some (Value.bool b)) ha)
  clear ha
  have H1:=(K.box [.slice C p.store.cells.length kC,.slice R p.store.roots.length kR,.slice V p.cols.length kV,.bool true] 109).order [3,0,1,2,4,5] (L':=[.rowN (.slice V p.cols.length kV) p.cols.length (greys p.cols (p.store.roots.take 0)),.box w3.heap.size [.slice C p.store.cells.length kC,.slice R p.store.roots.length kR,.slice V p.cols.length kV,.bool true] 109,.cells (.slice C p.store.cells.length kC) rvs p.store.cells,.ints (.slice R p.store.roots.length kR) p.store.roots,.box (w.heap.size+1) [.slice none 0 0,.slice none 0 0,.slice none 0 0,.bool false] 109,.box w.heap.size [.slice D m d,.slice D' m' d',.slice E q f,.bool p.act] 109]) (by decide) rfl
  clear H K
  go_wp2_with fail
  clear x0 x1 x2 x3 x4 x5 x6 x7 b0 b1 b2 b3
  generalize w3.heap.size=gx at *
  go_loopw [4] (fun i wr=>∃ k:Nat,i=.int .i64 k/\k<=p.store.roots.length/\Owns w.heap.size w wr [.rowN (.slice V p.cols.length kV) p.cols.length (greys p.cols (p.store.roots.take k)),.box gx [.slice C p.store.cells.length kC,.slice R p.store.roots.length kR,.slice V p.cols.length kV,.bool true] 109,.cells (.slice C p.store.cells.length kC) rvs p.store.cells,.ints (.slice R p.store.roots.length kR) p.store.roots,.box (w.heap.size+1) [.slice none 0 0,.slice none 0 0,.slice none 0 0,.bool false] 109,.box w.heap.size [.slice D m d,.slice D' m' d',.slice E q f,.bool p.act] 109]) (fun i _=>p.store.roots.length - (intOf i).toNat)
  case atStart=>exact⟨0,rfl,Nat.zero_le _,H1⟩
  case round =>
   clear H1
   obtain⟨k,rfl,hk,H⟩:=hrel
   by_cases hlt:k<p.store.roots.length
   ·have hx:Hid (p.store.roots[k]?=some (p.store.roots[k])):=hid (List.getElem?_eq_getElem hlt)
    generalize p.store.roots[k]=y at hx
    have hS:greys p.cols (p.store.roots.take (k+1))=greyI (greys p.cols (p.store.roots.take k)) y:=by rw[take_snoc' hx,greys_snoc]
    have hy:=HLd.out.1 y (List.mem_of_getElem? hx.out)
    have hXl:(greys p.cols (p.store.roots.take k)).length=p.cols.length:=greys_len _ _
    generalize greys p.cols (p.store.roots.take k)=X at *
    have HS:=hid hS
    have HXl:=hid hXl
    obtain⟨⟨b0,b1⟩,b2,b3⟩:=box4s H 1 rfl
    obtain⟨gR,cR,e,-,-,-,-⟩:=H.rowAt 3 rfl (by omega)
    simp only[Value.slice.injEq,true_and]at e
    obtain⟨rfl,rfl⟩:=e
    obtain⟨m0,-⟩:=H.elem 3 rfl (j:=k) (u:=.int .i64 y) (by rw[List.getElem?_map,hx.out];rfl)
    clear hS hXl hx
    go_upto_region 10 with fail
    have HX:=H.drew
    clear H
    refine wp_region_tree (fun w'=>((w'.cell? ⟨gx,0,none⟩=some (.slice C p.store.cells.length kC)/\w'.cell? ⟨gx,1,none⟩=some (.slice (some ⟨gR,0,none⟩) p.store.roots.length kR))/\w'.cell? ⟨gx,2,none⟩=some (.slice V p.cols.length kV)/\w'.cell? ⟨gx,3,none⟩=some (.bool true))/\w'.cell? ⟨gR,k,none⟩=some (.int .i64 y)) 7 [] (.take 0 (.take 1 (.take 2 (.take 3 (.take 4 (.take 5 (.take 6 (.alt 7 (.done) (.stop))))))))) (by kernel_rfl) (by kernel_rfl) (by kernel_rfl) (⟨⟨⟨b0,b1⟩,b2,b3⟩,m0⟩) ?_
    simp only[fillT,lgz,Nat.reduceBEq]
    repeat first|(with_reducible apply po_take;(·(go_simp;done));(·(intro w' hS';(try dsimp only at hS');go_simp;try with_reducible rfl));simp only[lpa])|(with_reducible apply po_skip;(·(go_simp;done));simp only[lpa])
    with_reducible refine po_last ?_ (fun K hK=>?_)
    ·(go_simp;done)
    go_simp
    refine (grey1_own HX HXl.out y hy (by omega)).mono ?_
    rintro e w5 ⟨⟨u,rfl⟩,H2⟩
    rw[<-HS.out]at H2
    refine hK.out _ _ (.inl rfl) ?_
    clear hK K
    refine po_done ?_
    clear HX b0 b1 b2 b3 m0
    go_wp2_with fail
    go_roundw
    case rel=>exact⟨k+1,by go_num,by omega,H2⟩
    case measure=>simp[intOf];omega
   ·rw[List.take_of_length_le (by omega)]at H
    replace H:=H.order [1,2,3,0,4] (L':=[.box gx [.slice C p.store.cells.length kC,.slice R p.store.roots.length kR,.slice V p.cols.length kV,.bool true] 109,.cells (.slice C p.store.cells.length kC) rvs p.store.cells,.ints (.slice R p.store.roots.length kR) p.store.roots,.ints (.slice V p.cols.length kV) (greys p.cols p.store.roots),.box (w.heap.size+1) [.slice none 0 0,.slice none 0 0,.slice none 0 0,.bool false] 109]) (by decide) (by rw[<-rowN_ints (greys_len p.store.roots p.cols)];rfl)
    obtain⟨b0,b1,b2,b3,-,-,-,-⟩:=box4 H 0 rfl
    obtain⟨y0,y1,y2,y3,y4,y5,y6,y7⟩:=box4 H 4 rfl
    have HZ:=(((H.putBox 4 rfl 0 (.slice C p.store.cells.length kC)).putBox 4 rfl 1 (.slice R p.store.roots.length kR)).putBox 4 rfl 2 (.slice V p.cols.length kV)).putBox 4 rfl 3 (.bool true)
    simp only[lsz]at HZ
    obtain⟨z0,z1,z2,z3,-,-,-,-⟩:=box4 HZ 4 rfl
    have HS:Hid (MadePt w (ptStart p) (.returned (.agg #[.slice C p.store.cells.length kC,.slice R p.store.roots.length kR,.slice V p.cols.length kV,.bool true])) _):=hid (by rw[HE.out];exact⟨_,rvs,_,_,rfl,HZ.order [1,2,3] (by decide) rfl⟩)
    clear H HZ
    go_wp2
    exact bodyPost_ret (by simp[results,Tryz.results70,go_sem,z0,z1,z2,z3]) rfl HS.out
set_option maxHeartbeats 6400000 in
set_option maxRecDepth 20000 in
theorem specPaintStep_any (w:World) (B:Nat) (v:Value) (p:Pt) (hh:RdPt w B v p) (P:PtOk p):
  Calls Tryz.prog 71 #[v] w (MadePtB w (ptStep p) (decide (ptNext p<p.cols.length))):=by
 have hh':=hh.top
 obtain⟨D,m,d,D',m',d',E,q,f,rfl,hC,hR,hE⟩:=hh.top
 obtain⟨t1,t2,t3,HN3⟩:=pt_small P
 have HP:=hid P
 have HLd:=hid (pt_leads P)
 have HR3:Hid (∀ (c:Nat) (l:Cel),p.store.cells[c]?=some l->l.refs.length<=3):=hid fun c l hl=>(refs3 (good_iff.2 P.good) hl).1
 have hcl1:p.cols.length<=p.store.cells.length:=by rw[P.len];exact Nat.le_refl _
 have hcl2:p.store.cells.length<=p.cols.length:=by rw[P.len];exact Nat.le_refl _
 have H:=((Owns.nil w).box [.slice D m d,.slice D' m' d',.slice E q f,.bool p.act] 109).box [.slice none 0 0,.slice none 0 0,.slice none 0 0,.bool false] 109
 simp only[lnm]at H
 obtain⟨⟨a0,a1⟩,a2,a3⟩:=box4s H 1 rfl
 clear P
 go_enter Tryz.func71,Tryz.ntmps71
 go_wp2_with fail
 refine (specPaintValid_yes _ _ _ p (hh'.below H.below) HP.out).mono ?_
 rintro e w1 ⟨rfl,hb⟩
 replace H:=H.call hb
 clear hb a0 a1 a2 a3
 obtain⟨⟨a0,a1⟩,a2,a3⟩:=box4s H 1 rfl
 go_wp2_with fail
 refine (l18Copy_any _ _ _ p (hh'.below H.below) HP.out).mono ?_
 rintro e w3 ⟨cv,rvs,rv,ov,rfl,K⟩
 replace K:=H.merge K
 simp only[lca]at K
 obtain⟨C,kC,rfl,-⟩:=K.formC 0 rfl
 obtain⟨R,kR,rfl,-⟩:=K.formI 1 rfl
 obtain⟨V,kV,rfl,-⟩:=K.formI 2 rfl
 clear H a0 a1 a2 a3
 have H1:=(K.box [.slice C p.store.cells.length kC,.slice R p.store.roots.length kR,.slice V p.cols.length kV,.bool p.act] 109).order [3,0,1,2,4,5] (L':=[.rowN (.slice V p.cols.length kV) p.cols.length (p.cols),.box w3.heap.size [.slice C p.store.cells.length kC,.slice R p.store.roots.length kR,.slice V p.cols.length kV,.bool p.act] 109,.cells (.slice C p.store.cells.length kC) rvs p.store.cells,.ints (.slice R p.store.roots.length kR) p.store.roots,.box (w.heap.size+1) [.slice none 0 0,.slice none 0 0,.slice none 0 0,.bool false] 109,.box w.heap.size [.slice D m d,.slice D' m' d',.slice E q f,.bool p.act] 109]) (by decide) rfl
 clear K
 go_wp2_with fail
 generalize w3.heap.size=gx at *
 go_loopw [5] (fun i wr=>∃ k:Nat,i=.int .i64 k/\k<=p.cols.length/\Hid (∀ i,i<k->colA p.cols i≠1)/\Owns w.heap.size w wr [.rowN (.slice V p.cols.length kV) p.cols.length (p.cols),.box gx [.slice C p.store.cells.length kC,.slice R p.store.roots.length kR,.slice V p.cols.length kV,.bool p.act] 109,.cells (.slice C p.store.cells.length kC) rvs p.store.cells,.ints (.slice R p.store.roots.length kR) p.store.roots,.box (w.heap.size+1) [.slice none 0 0,.slice none 0 0,.slice none 0 0,.bool false] 109,.box w.heap.size [.slice D m d,.slice D' m' d',.slice E q f,.bool p.act] 109]) (fun i _=>p.cols.length - (intOf i).toNat)
 case atStart=>exact⟨0,rfl,Nat.zero_le _,hid (fun i hi=>absurd hi (by omega)),H1⟩
 case round =>
  clear H1
  obtain⟨k,rfl,hk,HN,H⟩:=hrel
  obtain⟨⟨b0,b1⟩,b2,b3⟩:=box4s H 1 rfl
  by_cases hlt:k<p.cols.length
  ·obtain⟨z,hz⟩:∃ z,Hid (p.cols[k]?=some z):=⟨_,hid (List.getElem?_eq_getElem hlt)⟩
   obtain⟨l,hl⟩:∃ l,Hid (p.store.cells[k]?=some l):=⟨_,hid (List.getElem?_eq_getElem (by omega))⟩
   obtain⟨gV,cV,e,-,-,-,-⟩:=H.rowAt 0 rfl (by omega)
   simp only[Value.slice.injEq,true_and]at e
   obtain⟨rfl,rfl⟩:=e
   obtain⟨m0,mf⟩:=H.elem 0 rfl (j:=k) (u:=.int .i64 z) (by rw[List.getElem?_map,hz.out];rfl)
   by_cases z1:z=1
   ·have HE:=hid (step_at HN.out (by rw[hz.out,z1]) hl.out)
    have k1:(z == 1)=true:=by simp[z1]
    have hf3:=HR3.out k l hl.out
    have HLl:=hid (HLd.out.2 k l hl.out)
    have H0:Owns w.heap.size w wr [.rowN (.slice (some ⟨gV,0,none⟩) p.cols.length kV) p.cols.length (greys p.cols (l.refs.take 0)),.box gx [.slice C p.store.cells.length kC,.slice R p.store.roots.length kR,.slice (some ⟨gV,0,none⟩) p.cols.length kV,.bool p.act] 109,.cells (.slice C p.store.cells.length kC) rvs p.store.cells,.ints (.slice R p.store.roots.length kR) p.store.roots,.box (w.heap.size+1) [.slice none 0 0,.slice none 0 0,.slice none 0 0,.bool false] 109,.box w.heap.size [.slice D m d,.slice D' m' d',.slice E q f,.bool p.act] 109]:=H
    clear z1 hz mf H
    go_wp2_with fail
    clear b0 b1 b2 b3 m0
    go_loopw [6] (fun i ws=>∃ j:Nat,i=.int .i64 j/\j<=l.refs.length/\Owns w.heap.size w ws [.rowN (.slice (some ⟨gV,0,none⟩) p.cols.length kV) p.cols.length (greys p.cols (l.refs.take j)),.box gx [.slice C p.store.cells.length kC,.slice R p.store.roots.length kR,.slice (some ⟨gV,0,none⟩) p.cols.length kV,.bool p.act] 109,.cells (.slice C p.store.cells.length kC) rvs p.store.cells,.ints (.slice R p.store.roots.length kR) p.store.roots,.box (w.heap.size+1) [.slice none 0 0,.slice none 0 0,.slice none 0 0,.bool false] 109,.box w.heap.size [.slice D m d,.slice D' m' d',.slice E q f,.bool p.act] 109]) (fun i _=>l.refs.length - (intOf i).toNat)
    case atStart=>exact⟨0,rfl,Nat.zero_le _,H0⟩
    case round =>
     clear H0
     obtain⟨j,rfl,hj,H⟩:=hrel
     obtain⟨⟨b0,b1⟩,b2,b3⟩:=box4s H 1 rfl
     obtain⟨gC,cC,A2,c2,e,hrv,y0,y1,y2,-⟩:=H.cellW 2 rfl hl
     simp only[Value.slice.injEq,true_and]at e
     obtain⟨rfl,rfl⟩:=e
     clear y0 y1
     by_cases hlj:j<l.refs.length
     ·have hR2:=H.refsR 2 rfl hl.out hrv.out
      obtain⟨b,o,y,rfl,hbb,hy,p1⟩:=RdI.at_ hR2 hlj
      have hS:greys p.cols (l.refs.take (j+1))=greyI (greys p.cols (l.refs.take j)) y:=by rw[take_snoc' hy,greys_snoc]
      have hyl:=HLl.out y (List.mem_of_getElem? hy.out)
      have hXl:(greys p.cols (l.refs.take j)).length=p.cols.length:=greys_len _ _
      generalize greys p.cols (l.refs.take j)=X at *
      have HS:=hid hS
      have HXl:=hid hXl
      clear hS hXl hy hR2 hrv
      have i3:(k:Int)<(p.store.cells.length:Int):=by omega
      have i4:(j:Int)<(l.refs.length:Int):=by omega
      go_upto_region 11 with fail
      have HX:=H.drew
      clear H
      refine wp_region_tree (fun w'=>((w'.cell? ⟨gx,0,none⟩=some (.slice (some ⟨gC,0,none⟩) p.store.cells.length kC)/\w'.cell? ⟨gx,1,none⟩=some (.slice R p.store.roots.length kR))/\w'.cell? ⟨gx,2,none⟩=some (.slice (some ⟨gV,0,none⟩) p.cols.length kV)/\w'.cell? ⟨gx,3,none⟩=some (.bool p.act))/\w'.cell? ⟨gC,k*3+2,none⟩=some (.slice (some ⟨b,o,none⟩) l.refs.length c2)/\w'.cell? ⟨b,o+j,none⟩=some (.int .i64 y)) 11 [] (.take 0 (.take 1 (.take 2 (.take 3 (.take 4 (.take 5 (.take 6 (.take 7 (.take 8 (.take 9 (.take 10 (.alt 11 (.done) (.stop))))))))))))) (by kernel_rfl) (by kernel_rfl) (by kernel_rfl) (⟨⟨⟨b0,b1⟩,b2,b3⟩,y2,p1⟩) ?_
      simp only[fillT,lgz,Nat.reduceBEq]
      repeat first|(with_reducible apply po_take;(·(go_simp;done));(·(intro w' hS';(try dsimp only at hS');go_simp;try with_reducible rfl));simp only[lpa])|(with_reducible apply po_skip;(·(go_simp;done));simp only[lpa])
      with_reducible refine po_last ?_ (fun K hK=>?_)
      ·(go_simp;done)
      go_simp
      refine (grey1_own HX HXl.out y hyl (by omega)).mono ?_
      rintro e w5 ⟨⟨u,rfl⟩,H2⟩
      rw[<-HS.out]at H2
      refine hK.out _ _ (.inl rfl) ?_
      clear hK K
      refine po_done ?_
      clear HX b0 b1 b2 b3 y2 p1
      go_wp2_with fail
      go_roundw
      case rel=>exact⟨j+1,by go_num,by omega,H2⟩
      case measure=>simp[intOf];omega
     ·rw[List.take_of_length_le (by omega)]at H
      have HGl:Hid ((greys p.cols l.refs).length=p.cols.length):=hid (greys_len _ _)
      obtain⟨x,hx⟩:∃ x,Hid ((greys p.cols l.refs)[k]?=some x):=⟨_,hid (List.getElem?_eq_getElem (by rw[HGl.out];exact hlt))⟩
      obtain⟨m0,mf⟩:=H.elem 0 rfl (j:=k) (u:=.int .i64 x) (by rw[List.getElem?_map,hx.out];rfl)
      have H2:=H.putN 0 rfl k 2
      simp only[List.set_cons_zero]at H2
      have HG2:Hid (((greys p.cols l.refs).set k 2).length=p.cols.length):=hid (by rw[List.length_set];exact HGl.out)
      clear hx
      have H:=H2
      clear H2
      replace H:=H.order [1,2,3,0,4] (L':=[.box gx [.slice (some ⟨gC,0,none⟩) p.store.cells.length kC,.slice R p.store.roots.length kR,.slice (some ⟨gV,0,none⟩) p.cols.length kV,.bool p.act] 109,.cells (.slice (some ⟨gC,0,none⟩) p.store.cells.length kC) rvs p.store.cells,.ints (.slice R p.store.roots.length kR) p.store.roots,.ints (.slice (some ⟨gV,0,none⟩) p.cols.length kV) ((greys p.cols l.refs).set k 2),.box (w.heap.size+1) [.slice none 0 0,.slice none 0 0,.slice none 0 0,.bool false] 109]) (by decide) (by rw[<-rowN_ints (n:=p.cols.length) (HG2.out)];rfl)
      obtain⟨b0,b1,b2,b3,-,-,-,-⟩:=box4 H 0 rfl
      obtain⟨y0,y1,y2,y3,y4,y5,y6,y7⟩:=box4 H 4 rfl
      have HZ:=(((H.putBox 4 rfl 0 (.slice (some ⟨gC,0,none⟩) p.store.cells.length kC)).putBox 4 rfl 1 (.slice R p.store.roots.length kR)).putBox 4 rfl 2 (.slice (some ⟨gV,0,none⟩) p.cols.length kV)).putBox 4 rfl 3 (.bool p.act)
      simp only[lsz]at HZ
      obtain⟨z0,z1,z2,z3,-,-,-,-⟩:=box4 HZ 4 rfl
      have HS:Hid (MadePtB w (ptStep p) (decide (ptNext p<p.cols.length)) (.returned (.tuple #[.agg #[.slice (some ⟨gC,0,none⟩) p.store.cells.length kC,.slice R p.store.roots.length kR,.slice (some ⟨gV,0,none⟩) p.cols.length kV,.bool p.act],.bool true])) _):=hid (by rw[HE.out.1,HE.out.2];exact⟨_,rvs,_,_,rfl,HZ.order [1,2,3] (by decide) rfl⟩)
      clear H HZ
      go_wp2
      exact bodyPost_ret (by simp[results,Tryz.results71,go_sem,z0,z1,z2,z3]) rfl HS.out
   ·have k1:(z == 1)=false:=by simp[z1]
    have HN2:Hid (∀ i,i<k+1->colA p.cols i≠1):=hid (fun i hi=>by
     by_cases e:i=k
     ·subst e;rw[colA_at hz.out];exact z1
     ·exact HN.out i (by omega))
    clear z1 hz mf
    go_wp2
    go_roundw
    case rel=>exact⟨k+1,by go_num,by omega,HN2,H⟩
    case measure=>simp[intOf];omega
  ·have HE:=hid (step_no (p:=p) (fun i hi=>HN.out i (by omega)))
   replace H:=H.order [1,2,3,0,4] (L':=[.box gx [.slice C p.store.cells.length kC,.slice R p.store.roots.length kR,.slice V p.cols.length kV,.bool p.act] 109,.cells (.slice C p.store.cells.length kC) rvs p.store.cells,.ints (.slice R p.store.roots.length kR) p.store.roots,.ints (.slice V p.cols.length kV) (p.cols),.box (w.heap.size+1) [.slice none 0 0,.slice none 0 0,.slice none 0 0,.bool false] 109]) (by decide) (by rw[<-rowN_ints (n:=p.cols.length) (rfl)];rfl)
   obtain⟨b0,b1,b2,b3,-,-,-,-⟩:=box4 H 0 rfl
   obtain⟨y0,y1,y2,y3,y4,y5,y6,y7⟩:=box4 H 4 rfl
   have HZ:=(((H.putBox 4 rfl 0 (.slice C p.store.cells.length kC)).putBox 4 rfl 1 (.slice R p.store.roots.length kR)).putBox 4 rfl 2 (.slice V p.cols.length kV)).putBox 4 rfl 3 (.bool p.act)
   simp only[lsz]at HZ
   obtain⟨z0,z1,z2,z3,-,-,-,-⟩:=box4 HZ 4 rfl
   have HS:Hid (MadePtB w (ptStep p) (decide (ptNext p<p.cols.length)) (.returned (.tuple #[.agg #[.slice C p.store.cells.length kC,.slice R p.store.roots.length kR,.slice V p.cols.length kV,.bool p.act],.bool false])) _):=hid (by rw[HE.out.1,HE.out.2];exact⟨_,rvs,_,_,rfl,HZ.order [1,2,3] (by decide) rfl⟩)
   clear H HZ
   go_wp2
   exact bodyPost_ret (by simp[results,Tryz.results71,go_sem,z0,z1,z2,z3]) rfl HS.out
theorem len_new {h:Hp}{o:Cmd}{p:Nat}(h1:o.op=1) (hp:p=h.cells.length):(mDo h o p).cells.length=h.cells.length+1:=by
 unfold mDo
 rw[if_pos h1]
 show (putCel h.cells p (newCel o)).length=_
 unfold putCel
 rw[if_pos hp];simp
theorem len_old {h:Hp}{o:Cmd}{p:Nat}(h1:o.op=1) (hp:p<h.cells.length):(mDo h o p).cells.length=h.cells.length:=by
 unfold mDo
 rw[if_pos h1]
 show (putCel h.cells p (newCel o)).length=_
 unfold putCel
 rw[if_neg (by omega)];simp
theorem grow_same {n:Nat}{l:List Bool}(h:n<=l.length):agGrow n l=l:=by unfold agGrow;rw[if_neg (by omega)]
theorem grow_more {n:Nat}{l:List Bool}(h:l.length<n):agGrow n l=l++[false]:=by unfold agGrow;rw[if_pos h]
theorem note_no {a:Ag}{o:Cmd}(h3:¬ o.op=3):agNote a o=a.noted:=by unfold agNote agMark;rw[decide_eq_false h3];rfl
theorem note_set {a:Ag}{o:Cmd}{q:Nat}{y:Int}{x:Bool}(h3:o.op=3) (hq:rootI a.store o.a=q) (hy:rootI a.store o.b=y) (hx:Hid (a.noted[q]?=some x)):agNote a o=a.noted.set q (x || (atB a.old q && decide (0<=y) && !atB a.old y.toNat)):=by
 unfold agNote agMark
 rw[decide_eq_true h3,hq,hy]
 simp only[Bool.true_and,Int.toNat_natCast]
 cases e:(atB a.old q && decide (0<=y) && !atB a.old y.toNat)
 ·rw[Bool.or_false,if_neg (by simp)]
  apply List.ext_getElem?
  intro i
  rw[List.getElem?_set]
  by_cases h:q=i
  ·subst h
   rw[if_pos rfl,hx.out,if_pos (List.getElem?_eq_some_iff.1 hx.out).1]
  ·rw[if_neg h]
 ·rw[Bool.or_true,if_pos rfl]
set_option maxHeartbeats 6400000 in
set_option maxRecDepth 20000 in
theorem specStepAged_any (w:World) (B:Nat) (v:Value) (a:Ag) (hh:RdAg w B v a) (o:Cmd) (A:AgOk a) (hc:cmdOk o=true):
  Calls Tryz.prog 67 #[v,cmdV o] w (MadeAgB w (agStep a o)):=by
 have hh':=hh.top
 obtain⟨D,m,d,D',m',d',E,q,f,F,r,x,rfl,hC,hR,hE,hF⟩:=hh.top
 have HA:=hid A
 have HCo:=hid hc
 have hst:RdH w w.heap.size (.agg #[.slice D m d,.slice D' m' d']) a.store:=⟨_,_,_,_,_,_,rfl,hC,hR⟩
 have HV:=hid (mPoss_yes (good_iff.2 A.good) hc)
 have s4:=(ag_small A).1
 have hfl:=mFree_le a.store
 have l1:=RdB.le1 hE;have l2:=RdB.le2 hE
 have ho1:a.old.length<=a.store.cells.length:=by rw[A.len1];exact Nat.le_refl _
 have ho2:a.store.cells.length<=a.old.length:=by rw[A.len1];exact Nat.le_refl _
 have hn1:a.noted.length<=a.store.cells.length:=by rw[A.len2];exact Nat.le_refl _
 have hn2:a.store.cells.length<=a.noted.length:=by rw[A.len2];exact Nat.le_refl _
 have H:=(((Owns.nil w).box [.slice D m d,.slice D' m' d',.slice E q f,.slice F r x] 64).box [.int .i64 o.op,.int .i64 o.a,.int .i64 o.b,.int .i64 o.c] 79).box [.slice none 0 0,.slice none 0 0,.slice none 0 0,.slice none 0 0] 64
 simp only[lnm]at H
 obtain⟨⟨a0,a1⟩,a2,a3⟩:=box4s H 2 rfl
 clear A hc
 go_enter Tryz.func67,Tryz.ntmps67
 go_wp2_with fail
 refine (specAgedValid_yes _ _ _ a (hh'.below H.below) HA.out).mono ?_
 rintro e w1 ⟨rfl,hb⟩
 replace H:=H.call hb
 clear hb a0 a1 a2 a3
 obtain⟨⟨b0,b1⟩,b2,b3⟩:=box4s H 1 rfl
 go_wp2_with fail
 refine (specCommandValid_any o _).mono ?_
 rintro e w2 ⟨rfl,hb⟩
 rw[HCo.out]
 replace H:=H.call hb
 clear hb b0 b1 b2 b3
 obtain⟨⟨a0,a1⟩,a2,a3⟩:=box4s H 2 rfl
 go_wp2_with fail
 refine (l17Copy_any _ _ _ a (hh'.below H.below) HA.out).mono ?_
 rintro e w3 ⟨cv,rvs,rv,ov,nv,rfl,K⟩
 replace K:=H.merge K
 simp only[lca]at K
 obtain⟨C,kC,rfl,-⟩:=K.formC 0 rfl
 obtain⟨R,kR,rfl,-⟩:=K.formI 1 rfl
 obtain⟨V,kV,rfl,-⟩:=K.formB 2 rfl
 obtain⟨W,kW,rfl,-⟩:=K.formB 3 rfl
 clear H a0 a1 a2 a3
 replace K:=K.box [.slice C a.store.cells.length kC,.slice R a.store.roots.length kR,.slice V a.old.length kV,.slice W a.noted.length kW] 64
 obtain⟨⟨a0,a1⟩,a2,a3⟩:=box4s K 7 rfl
 go_wp2_with fail
 refine (l10Place_any _ _ _ a.store (hst.below K.below) (by omega)).mono ?_
 rintro e w4 ⟨rfl,hb⟩
 replace K:=K.call hb
 clear hb a0 a1 a2 a3
 obtain⟨p,hp⟩:∃ p,p=mFree a.store:=⟨_,rfl⟩
 rw[<-hp]at hfl⊢
 have HPf:=hid hp
 clear hp
 go_upto_region 5 with fail
 go_cut [37] (fun s wx=>s=.bool (!canB a.store o)/\Owns w.heap.size w wx [.box w3.heap.size [.slice C a.store.cells.length kC,.slice R a.store.roots.length kR,.slice V a.old.length kV,.slice W a.noted.length kW] 64,.cells (.slice C a.store.cells.length kC) rvs a.store.cells,.ints (.slice R a.store.roots.length kR) a.store.roots,.bools (.slice V a.old.length kV) a.old,.bools (.slice W a.noted.length kW) a.noted,.box (w.heap.size+2) [.slice none 0 0,.slice none 0 0,.slice none 0 0,.slice none 0 0] 64,.box (w.heap.size+1) [.int .i64 o.op,.int .i64 o.a,.int .i64 o.b,.int .i64 o.c] 79,.box w.heap.size [.slice D m d,.slice D' m' d',.slice E q f,.slice F r x] 64])
 case first =>
  obtain⟨⟨a0,a1⟩,a2,a3⟩:=box4s K 7 rfl
  obtain⟨⟨b0,b1⟩,b2,b3⟩:=box4s K 6 rfl
  go_wp2_with fail
  refine (specPossible_any _ _ _ a.store (hst.below K.below) o).mono ?_
  rintro e w5 ⟨rfl,hb⟩
  rw[HV.out]
  replace K:=K.call hb
  clear hb a0 a1 a2 a3 b0 b1 b2 b3
  obtain⟨⟨b0,b1⟩,b2,b3⟩:=box4s K 6 rfl
  cases hps:possB a.store o
  ·have HF:Hid (canB a.store o=false):=hid (by simp[canB,hps])
   clear hps
   go_wp2
   go_meet
   exact⟨by rw[HF.out];rfl,K⟩
  by_cases h1:o.op=1
  ·have k1:(o.op == 1)=true:=by simp[h1]
   by_cases hf:p=40
   ·have HF:Hid (canB a.store o=false):=hid (by simp[canB,hps,h1];rw[<-HPf.out];omega)
    have k2:((p:Int) == 40)=true:=by simp[hf]
    clear hps h1 hf
    go_wp2
    go_meet
    exact⟨by rw[HF.out];rfl,K⟩
   ·have HF:Hid (canB a.store o=true):=hid (by simp[canB,hps,h1];rw[<-HPf.out];omega)
    have k2:((p:Int) == 40)=false:=by simp;omega
    clear hps h1 hf
    go_wp2
    go_meet
    exact⟨by rw[HF.out];rfl,K⟩
  ·have k1:(o.op == 1)=false:=by simp[h1]
   have HF:Hid (canB a.store o=true):=hid (by simp[canB,hps,h1])
   clear hps h1
   go_wp2
   go_meet
   exact⟨by rw[HF.out];rfl,K⟩
 case rest =>
  obtain⟨rfl,HC⟩:=hcut
  clear K
  have HS:=hid (agStep_can a o)
  cases hb:canB a.store o
  ·rw[hb]at HS
   have HT:Hid (agStep a o=a):=HS
   obtain⟨⟨a0,a1⟩,a2,a3⟩:=box4s HC 0 rfl
   obtain⟨y0,y1,y2,y3,y4,y5,y6,y7⟩:=box4 HC 5 rfl
   have HZ:=(((HC.putBox 5 rfl 0 (.slice C a.store.cells.length kC)).putBox 5 rfl 1 (.slice R a.store.roots.length kR)).putBox 5 rfl 2 (.slice V a.old.length kV)).putBox 5 rfl 3 (.slice W a.noted.length kW)
   simp only[lsz]at HZ
   obtain⟨z0,z1,z2,z3,-,-,-,-⟩:=box4 HZ 5 rfl
   have HQ:Hid (MadeAgB w (agStep a o) (.returned (.tuple #[.agg #[.slice C a.store.cells.length kC,.slice R a.store.roots.length kR,.slice V a.old.length kV,.slice W a.noted.length kW],.bool false])) _):=hid (by rw[HT.out];exact⟨_,rvs,_,_,_,_,rfl,HZ.order [1,2,3,4] (by decide) rfl⟩)
   clear hb HS HZ HC
   go_wp2
   exact bodyPost_ret (by simp[results,Tryz.results67,go_sem,z0,z1,z2,z3]) rfl HQ.out
  ·rw[hb]at HS
   have HT0:Hid (agStep a o=⟨mDo a.store o (mFree a.store),agGrow (mDo a.store o (mFree a.store)).cells.length a.old,agGrow (mDo a.store o (mFree a.store)).cells.length (agNote a o)⟩):=HS
   have HP:=hid (can_poss hb).1
   have HL1:=hid (fun (h1:o.op=1) (hp:p=a.store.cells.length)=>len_new h1 hp)
   have HL2:=hid (fun (h1:o.op=1) (hp:p<a.store.cells.length)=>len_old h1 hp)
   have HL3:=hid (fun (h1:¬ o.op=1)=>(mDo_len (o:=o) hfl).2.1 h1)
   rw[<-HPf.out]at HT0
   clear hb HS
   obtain⟨⟨a0,a1⟩,a2,a3⟩:=box4s HC 7 rfl
   obtain⟨⟨b0,b1⟩,b2,b3⟩:=box4s HC 6 rfl
   go_wp2_with fail
   refine (l8Do_at _ _ _ a.store (hst.below HC.below) o HA.out.good HCo.out HP.out p hfl).mono ?_
   rintro e w7 ⟨cv,rvs',rv,rfl,K⟩
   replace K:=HC.merge K
   simp only[lca]at K
   obtain⟨T,hT⟩:∃ T,T=mDo a.store o p:=⟨_,rfl⟩
   rw[<-hT]at K HT0 HL1 HL2 HL3
   obtain⟨C',kC',rfl,-⟩:=K.formC 0 rfl
   obtain⟨R',kR',rfl,-⟩:=K.formI 1 rfl
   clear hT HC a0 a1 a2 a3 b0 b1 b2 b3
   obtain⟨y0,y1,y2,y3,y4,y5,y6,y7⟩:=box4 K 2 rfl
   have HZ:=((K.putBox 2 rfl 0 (.slice C' T.cells.length kC')).putBox 2 rfl 1 (.slice R' T.roots.length kR')).places [2,0,1,5,6,7,8,9] (by decide) (by simp)
   simp only[lfm,lsz]at HZ
   go_upto_region 8 with fail
   clear K y0 y1 y2 y3 y4 y5 y6 y7
   generalize World.setCell _ _ _=wz at HZ⊢
   obtain⟨⟨x0,x1⟩,x2,x3⟩:=box4s HZ 0 rfl
   obtain⟨⟨b0,b1⟩,b2,b3⟩:=box4s HZ 6 rfl
   obtain⟨⟨a0,a1⟩,a2,a3⟩:=box4s HZ 7 rfl
   by_cases h1:o.op=1
   ·have k1:(o.op == 1)=true:=by simp[h1]
    have k3:(o.op == 3)=false:=by simp[h1]
    have HNo:=hid (note_no (a:=a) (o:=o) (by omega))
    by_cases hp:p=a.store.cells.length
    ·have HG:=hid (HL1.out h1 hp)
     have HT:Hid (agStep a o=⟨T,a.old++[false],a.noted++[false]⟩):=hid (by rw[HT0.out,HNo.out,HG.out,grow_more (by omega),grow_more (by omega)])
     have k2:((p:Int) == (q:Int))=true:=by simp;omega
     clear HG HL1 HL2 HL3 HNo h1 hp
     have H1:=HZ.litB [false] one_le_maxLen
     simp only[lml]at H1
     obtain⟨y0,y1,y2,y3,y4,y5,y6,y7⟩:=box4 H1 1 rfl
     clear HZ
     go_upto_region 10 with (at_builtin;go_loud (refine wpList_pushBO rfl (.tmp 56) (.tmp 57) rfl H1 4 rfl rfl rfl (H1.owB 0 rfl).rdB (by omega) ?_;intro A3 k3 w8 H2;simp only[lsz]at H2;generalize hM:a.old++[false]=M at *;clear x0 x1 x2 x3 y0 y1 y2 y3 y4 y5 y6 y7;obtain⟨x0,x1,x2,x3,x4,x5,x6,x7⟩:=box4 H2 1 rfl))
     have H3:=(H2.putBox 1 rfl 2 (.slice A3 M.length k3)).drop 1
     simp only[lsz,List.drop_succ_cons,List.drop_zero]at H3
     clear H1 H2 x0 x1 x2 x3 x4 x5 x6 x7 a0 a1 a2 a3 b0 b1 b2 b3
     generalize World.setCell _ _ _=wy at H3⊢
     have H4:=H3.litB [false] one_le_maxLen
     simp only[lml]at H4
     obtain⟨⟨x0,x1⟩,x2,x3⟩:=box4s H3 0 rfl
     obtain⟨y0,y1,y2,y3,y4,y5,y6,y7⟩:=box4 H4 1 rfl
     clear H3
     go_upto_region 11 with (at_builtin;go_loud (refine wpList_pushBO rfl (.tmp 61) (.tmp 62) rfl H4 5 rfl rfl rfl (H4.owB 0 rfl).rdB (by omega) ?_;intro A6 k6 w9 H5;simp only[lsz]at H5;generalize hP:a.noted++[false]=P at *;clear x0 x1 x2 x3 y0 y1 y2 y3 y4 y5 y6 y7;obtain⟨x0,x1,x2,x3,x4,x5,x6,x7⟩:=box4 H5 1 rfl))
     have H6:=(H5.putBox 1 rfl 3 (.slice A6 P.length k6)).drop 1
     simp only[lsz,List.drop_succ_cons,List.drop_zero]at H6
     clear H4 H5 x0 x1 x2 x3 x4 x5 x6 x7
     generalize World.setCell _ _ _=wx at H6⊢
     obtain⟨⟨b0,b1⟩,b2,b3⟩:=box4s H6 6 rfl
     obtain⟨⟨x0,x1⟩,x2,x3⟩:=box4s H6 0 rfl
     obtain⟨y0,y1,y2,y3,y4,y5,y6,y7⟩:=box4 H6 5 rfl
     have HY:=(((H6.putBox 5 rfl 0 (.slice C' T.cells.length kC')).putBox 5 rfl 1 (.slice R' T.roots.length kR')).putBox 5 rfl 2 (.slice A3 M.length k3)).putBox 5 rfl 3 (.slice A6 P.length k6)
     simp only[lsz]at HY
     obtain⟨z0,z1,z2,z3,-,-,-,-⟩:=box4 HY 5 rfl
     have HQ:Hid (MadeAgB w (agStep a o) (.returned (.tuple #[.agg #[.slice C' T.cells.length kC',.slice R' T.roots.length kR',.slice A3 M.length k3,.slice A6 P.length k6],.bool true])) _):=hid (by rw[HT.out];exact⟨_,rvs',_,_,_,_,rfl,HY.order [1,2,3,4] (by decide) rfl⟩)
     clear HY H6
     go_wp2
     exact bodyPost_ret (by simp[results,Tryz.results67,go_sem,z0,z1,z2,z3]) rfl HQ.out
    ·have HG:=hid (HL2.out h1 (by omega))
     have HT:Hid (agStep a o=⟨T,a.old,a.noted⟩):=hid (by rw[HT0.out,HNo.out,HG.out,grow_same (by omega),grow_same (by omega)])
     have k2:((p:Int) == (q:Int))=false:=by simp;omega
     clear HG HL1 HL2 HL3 HNo h1 hp
     obtain⟨⟨x0,x1⟩,x2,x3⟩:=box4s HZ 0 rfl
     obtain⟨y0,y1,y2,y3,y4,y5,y6,y7⟩:=box4 HZ 5 rfl
     have HY:=(((HZ.putBox 5 rfl 0 (.slice C' T.cells.length kC')).putBox 5 rfl 1 (.slice R' T.roots.length kR')).putBox 5 rfl 2 (.slice V a.old.length kV)).putBox 5 rfl 3 (.slice W a.noted.length kW)
     simp only[lsz]at HY
     obtain⟨z0,z1,z2,z3,-,-,-,-⟩:=box4 HY 5 rfl
     have HQ:Hid (MadeAgB w (agStep a o) (.returned (.tuple #[.agg #[.slice C' T.cells.length kC',.slice R' T.roots.length kR',.slice V a.old.length kV,.slice W a.noted.length kW],.bool true])) _):=hid (by rw[HT.out];exact⟨_,rvs',_,_,_,_,rfl,HY.order [1,2,3,4] (by decide) rfl⟩)
     clear HY HZ
     go_wp2
     exact bodyPost_ret (by simp[results,Tryz.results67,go_sem,z0,z1,z2,z3]) rfl HQ.out
   have k1:(o.op == 1)=false:=by simp[h1]
   have HG:=hid (HL3.out h1)
   by_cases h3:o.op=3
   rotate_left
   ·have HNo:=hid (note_no (a:=a) (o:=o) h3)
    have HT:Hid (agStep a o=⟨T,a.old,a.noted⟩):=hid (by rw[HT0.out,HNo.out,HG.out,grow_same (by omega),grow_same (by omega)])
    have k3:(o.op == 3)=false:=by simp[h3]
    clear HG HL1 HL2 HL3 HNo h1 h3
    obtain⟨⟨x0,x1⟩,x2,x3⟩:=box4s HZ 0 rfl
    obtain⟨y0,y1,y2,y3,y4,y5,y6,y7⟩:=box4 HZ 5 rfl
    have HY:=(((HZ.putBox 5 rfl 0 (.slice C' T.cells.length kC')).putBox 5 rfl 1 (.slice R' T.roots.length kR')).putBox 5 rfl 2 (.slice V a.old.length kV)).putBox 5 rfl 3 (.slice W a.noted.length kW)
    simp only[lsz]at HY
    obtain⟨z0,z1,z2,z3,-,-,-,-⟩:=box4 HY 5 rfl
    have HQ:Hid (MadeAgB w (agStep a o) (.returned (.tuple #[.agg #[.slice C' T.cells.length kC',.slice R' T.roots.length kR',.slice V a.old.length kV,.slice W a.noted.length kW],.bool true])) _):=hid (by rw[HT.out];exact⟨_,rvs',_,_,_,_,rfl,HY.order [1,2,3,4] (by decide) rfl⟩)
    clear HY HZ
    go_wp2
    exact bodyPost_ret (by simp[results,Tryz.results67,go_sem,z0,z1,z2,z3]) rfl HQ.out
   have k3:(o.op == 3)=true:=by simp[h3]
   have hnl:(agNote a o).length<=a.noted.length:=by rw[note_len];exact Nat.le_refl _
   have hnm:a.noted.length<=(agNote a o).length:=by rw[note_len];exact Nat.le_refl _
   have HT:Hid (agStep a o=⟨T,a.old,agNote a o⟩):=hid (by rw[HT0.out,HG.out,grow_same (by omega),grow_same (by omega)])
   obtain⟨⟨i0,i1⟩,c0,c1⟩:=set_ops HCo.out h3
   have hr0:=set_root HP.out h3
   obtain⟨hq1,hq2⟩:=root_used HA.out.good i0 i1 hr0
   have hyu:=root_used HA.out.good c0 c1
   obtain⟨q0,hq⟩:=Int.eq_ofNat_of_zero_le hr0
   have HRa:=rootI_at HA.out.good.roots i0 i1
   have HRb:=rootI_at HA.out.good.roots c0 c1
   rw[hq]at hq1 HRa
   simp only[Int.toNat_natCast]at hq1
   obtain⟨y,hy⟩:∃ y,y=rootI a.store o.b:=⟨_,rfl⟩
   rw[<-hy]at HRb hyu
   obtain⟨xb,hx⟩:∃ xb,Hid (a.noted[q0]?=some xb):=⟨_,hid (List.getElem?_eq_getElem (by omega))⟩
   obtain⟨u,hu⟩:∃ u,Hid (a.old[q0]?=some u):=⟨_,hid (List.getElem?_eq_getElem (by omega))⟩
   have HN0:=hid (note_set h3 hq hy.symm hx)
   rw[atB_at hu.out]at HN0
   have l7:=RdI.le1 hR;have l8:=RdI.le2 hR
   have l9:4<=a.store.roots.length:=by rw[HA.out.good.roots];exact Nat.le_refl _
   obtain⟨bR,oR,rfl,hbR,hcR⟩:=hR.rd (by omega)
   obtain⟨bE,oE,rfl,hbE,hcE⟩:=hE.rd (by omega)
   have r0:=HZ.ro (hcR o.a.toNat (.int .i64 (q0:Int)) (by rw[List.getElem?_map,HRa.out];rfl)) hbR
   have r1:=HZ.ro (hcR o.b.toNat (.int .i64 y) (by rw[List.getElem?_map,HRb.out];rfl)) hbR
   have HE:=hid (fun (j:Nat) (z:Bool) (hj:a.old[j]?=some z)=>hcE j (.bool z) (by rw[List.getElem?_map,hj];rfl))
   have i2:o.a<(m':Int):=by omega
   have c2:o.b<(m':Int):=by omega
   have i3:(0:Int)<=(q0:Int):=by omega
   have i4:(q0:Int)<(q:Int):=by omega
   have i5:(q0:Int)<(a.noted.length:Int):=by omega
   obtain⟨gW,cW,e,-,-,-,-⟩:=HZ.rowAt 4 rfl (by omega)
   simp only[Value.slice.injEq,true_and]at e
   obtain⟨rfl,rfl⟩:=e
   have HYu:Hid (0<=y->y.toNat<a.store.cells.length):=hid fun h=>(hyu h).1
   clear HG HL1 HL2 HL3 h1 h3 hq hy hr0 hq2 hcR hcE HRa HRb hyu
   go_upto_region 14 with fail
   clear r0 r1 x0 x1 x2 x3 b0 b1 b2 b3 a0 a1 a2 a3
   go_cut [] (fun wx=>Owns w.heap.size w wx [.box w3.heap.size [.slice C' T.cells.length kC',.slice R' T.roots.length kR',.slice V a.old.length kV,.slice (some ⟨gW,0,none⟩) a.noted.length kW] 64,.cells (.slice C' T.cells.length kC') rvs' T.cells,.ints (.slice R' T.roots.length kR') T.roots,.bools (.slice V a.old.length kV) a.old,.bools (.slice (some ⟨gW,0,none⟩) a.noted.length kW) (agNote a o),.box (w.heap.size+2) [.slice none 0 0,.slice none 0 0,.slice none 0 0,.slice none 0 0] 64,.box (w.heap.size+1) [.int .i64 o.op,.int .i64 o.a,.int .i64 o.b,.int .i64 o.c] 79,.box w.heap.size [.slice D m d,.slice (some ⟨bR,oR,none⟩) m' d',.slice (some ⟨bE,oE,none⟩) q f,.slice F r x] 64])
   case rest =>
    have H9:=hcut
    clear HZ HE HN0 HYu hcut
    obtain⟨⟨x0,x1⟩,x2,x3⟩:=box4s H9 0 rfl
    obtain⟨y0,y1,y2,y3,y4,y5,y6,y7⟩:=box4 H9 5 rfl
    have HY:=(((H9.putBox 5 rfl 0 (.slice C' T.cells.length kC')).putBox 5 rfl 1 (.slice R' T.roots.length kR')).putBox 5 rfl 2 (.slice V a.old.length kV)).putBox 5 rfl 3 (.slice (some ⟨gW,0,none⟩) a.noted.length kW)
    simp only[lsz]at HY
    obtain⟨z0,z1,z2,z3,-,-,-,-⟩:=box4 HY 5 rfl
    have HQ:Hid (MadeAgB w (agStep a o) (.returned (.tuple #[.agg #[.slice C' T.cells.length kC',.slice R' T.roots.length kR',.slice V a.old.length kV,.slice (some ⟨gW,0,none⟩) a.noted.length kW],.bool true])) _):=hid (by rw[HT.out];exact⟨_,rvs',_,_,_,_,rfl,HY.order [1,2,3,4] (by decide) rfl⟩)
    clear HY H9
    go_wp2
    exact bodyPost_ret (by simp[results,Tryz.results67,go_sem,z0,z1,z2,z3]) rfl HQ.out
   case first =>
    cases xb
    ·cases u
     ·have HNo:Hid (agNote a o=a.noted.set q0 false):=HN0
      have HX:=HZ.drew
      obtain⟨n0,nf⟩:=HX.elem 4 rfl (j:=q0) (u:=.bool false) (by rw[List.getElem?_map,hx.out];rfl)
      have HD:=HX.putRow 4 rfl q0 (.bool false)
      simp only[lsz]at HD
      rw[bools_set,<-HNo.out]at HD
      obtain⟨⟨x0,x1⟩,x2,x3⟩:=box4s HX 0 rfl
      obtain⟨⟨a0,a1⟩,a2,a3⟩:=box4s HX 7 rfl
      have e0:=HX.ro (HE.out q0 false hu.out) hbE
      clear HX
      refine wp_region_tree (fun w'=>((w'.cell? ⟨w3.heap.size,3,none⟩=some (.slice (some ⟨gW,0,none⟩) a.noted.length kW)/\w'.cell? ⟨w.heap.size,2,none⟩=some (.slice (some ⟨bE,oE,none⟩) q f))/\w'.cell? ⟨gW,q0,none⟩=some (.bool false))/\w'.cell? ⟨bE,oE+q0,none⟩=some (.bool false)) 28 [] (.take 0 (.take 1 (.take 2 (.take 3 (.take 4 (.take 5 (.take 6 (.take 7 (.take 8 (.take 9 (.take 10 (.take 11 (.take 12 (.take 13 (.take 14 (.take 15 (.take 16 (.take 17 (.take 18 (.take 19 (.take 20 (.take 21 (.take 22 (.take 23 (.take 24 (.take 25 (.take 26 (.take 27 (.alt 28 (.done) (.stop)))))))))))))))))))))))))))))) (by kernel_rfl) (by kernel_rfl) (by kernel_rfl) (⟨⟨⟨x3,a2⟩,n0⟩,e0⟩) ?_
      simp only[fillT,lgz,Nat.reduceBEq]
      repeat first|(with_reducible apply po_take;(·(go_simp;done));(·(intro w' hS';(try dsimp only at hS');go_simp;try with_reducible rfl));simp only[lpa])|(with_reducible apply po_skip;(·(go_simp;done));simp only[lpa])
      with_reducible refine po_last ?_ (fun K hK=>?_)
      ·(go_simp;done)
      go_simp
      refine hK.out _ _ (.inl rfl) ?_
      clear hK K
      refine po_done ?_
      go_wp2_with fail
      go_meet
      exact HD
     ·by_cases y0:0<=y
      ·obtain⟨yq,rfl⟩:=Int.eq_ofNat_of_zero_le y0
       have hyl:=HYu.out y0
       simp only[Int.toNat_natCast]at hyl
       obtain⟨z,hz⟩:∃ z,Hid (a.old[yq]?=some z):=⟨_,hid (List.getElem?_eq_getElem (by omega))⟩
       have HNo:Hid (agNote a o=a.noted.set q0 (!z)):=hid (by rw[HN0.out,decide_eq_true y0,Int.toNat_natCast,atB_at hz.out];rfl)
       have j1:(0:Int)<=(yq:Int):=by omega
       have j2:(yq:Int)<(q:Int):=by omega
       cases z
       ·have HNo:Hid (agNote a o=a.noted.set q0 true):=HNo
        have HX:=HZ.drew
        obtain⟨n0,nf⟩:=HX.elem 4 rfl (j:=q0) (u:=.bool false) (by rw[List.getElem?_map,hx.out];rfl)
        have HD:=HX.putRow 4 rfl q0 (.bool true)
        simp only[lsz]at HD
        rw[bools_set,<-HNo.out]at HD
        obtain⟨⟨x0,x1⟩,x2,x3⟩:=box4s HX 0 rfl
        obtain⟨⟨a0,a1⟩,a2,a3⟩:=box4s HX 7 rfl
        have e0:=HX.ro (HE.out q0 true hu.out) hbE
        clear HX
        have e1:=HZ.drew.ro (HE.out yq false hz.out) hbE
        refine wp_region_tree (fun w'=>((w'.cell? ⟨w3.heap.size,3,none⟩=some (.slice (some ⟨gW,0,none⟩) a.noted.length kW)/\w'.cell? ⟨w.heap.size,2,none⟩=some (.slice (some ⟨bE,oE,none⟩) q f))/\w'.cell? ⟨gW,q0,none⟩=some (.bool false))/\w'.cell? ⟨bE,oE+q0,none⟩=some (.bool true)/\w'.cell? ⟨bE,oE+yq,none⟩=some (.bool false)) 28 [] (.take 0 (.take 1 (.take 2 (.take 3 (.take 4 (.take 5 (.take 6 (.take 7 (.take 8 (.take 9 (.take 10 (.take 11 (.take 12 (.take 13 (.take 14 (.take 15 (.take 16 (.take 17 (.take 18 (.take 19 (.take 20 (.take 21 (.take 22 (.take 23 (.take 24 (.take 25 (.take 26 (.take 27 (.alt 28 (.done) (.stop)))))))))))))))))))))))))))))) (by kernel_rfl) (by kernel_rfl) (by kernel_rfl) (⟨⟨⟨x3,a2⟩,n0⟩,e0,e1⟩) ?_
        simp only[fillT,lgz,Nat.reduceBEq]
        repeat first|(with_reducible apply po_take;(·(go_simp;done));(·(intro w' hS';(try dsimp only at hS');go_simp;try with_reducible rfl));simp only[lpa])|(with_reducible apply po_skip;(·(go_simp;done));simp only[lpa])
        with_reducible refine po_last ?_ (fun K hK=>?_)
        ·(go_simp;done)
        go_simp
        refine hK.out _ _ (.inl rfl) ?_
        clear hK K
        refine po_done ?_
        go_wp2_with fail
        go_meet
        exact HD
       ·have HNo:Hid (agNote a o=a.noted.set q0 false):=HNo
        have HX:=HZ.drew
        obtain⟨n0,nf⟩:=HX.elem 4 rfl (j:=q0) (u:=.bool false) (by rw[List.getElem?_map,hx.out];rfl)
        have HD:=HX.putRow 4 rfl q0 (.bool false)
        simp only[lsz]at HD
        rw[bools_set,<-HNo.out]at HD
        obtain⟨⟨x0,x1⟩,x2,x3⟩:=box4s HX 0 rfl
        obtain⟨⟨a0,a1⟩,a2,a3⟩:=box4s HX 7 rfl
        have e0:=HX.ro (HE.out q0 true hu.out) hbE
        clear HX
        have e1:=HZ.drew.ro (HE.out yq true hz.out) hbE
        refine wp_region_tree (fun w'=>((w'.cell? ⟨w3.heap.size,3,none⟩=some (.slice (some ⟨gW,0,none⟩) a.noted.length kW)/\w'.cell? ⟨w.heap.size,2,none⟩=some (.slice (some ⟨bE,oE,none⟩) q f))/\w'.cell? ⟨gW,q0,none⟩=some (.bool false))/\w'.cell? ⟨bE,oE+q0,none⟩=some (.bool true)/\w'.cell? ⟨bE,oE+yq,none⟩=some (.bool true)) 28 [] (.take 0 (.take 1 (.take 2 (.take 3 (.take 4 (.take 5 (.take 6 (.take 7 (.take 8 (.take 9 (.take 10 (.take 11 (.take 12 (.take 13 (.take 14 (.take 15 (.take 16 (.take 17 (.take 18 (.take 19 (.take 20 (.take 21 (.take 22 (.take 23 (.take 24 (.take 25 (.take 26 (.take 27 (.alt 28 (.done) (.stop)))))))))))))))))))))))))))))) (by kernel_rfl) (by kernel_rfl) (by kernel_rfl) (⟨⟨⟨x3,a2⟩,n0⟩,e0,e1⟩) ?_
        simp only[fillT,lgz,Nat.reduceBEq]
        repeat first|(with_reducible apply po_take;(·(go_simp;done));(·(intro w' hS';(try dsimp only at hS');go_simp;try with_reducible rfl));simp only[lpa])|(with_reducible apply po_skip;(·(go_simp;done));simp only[lpa])
        with_reducible refine po_last ?_ (fun K hK=>?_)
        ·(go_simp;done)
        go_simp
        refine hK.out _ _ (.inl rfl) ?_
        clear hK K
        refine po_done ?_
        go_wp2_with fail
        go_meet
        exact HD
      ·have HNo:Hid (agNote a o=a.noted.set q0 false):=hid (by rw[HN0.out,decide_eq_false y0];rfl)
       have HX:=HZ.drew
       obtain⟨n0,nf⟩:=HX.elem 4 rfl (j:=q0) (u:=.bool false) (by rw[List.getElem?_map,hx.out];rfl)
       have HD:=HX.putRow 4 rfl q0 (.bool false)
       simp only[lsz]at HD
       rw[bools_set,<-HNo.out]at HD
       obtain⟨⟨x0,x1⟩,x2,x3⟩:=box4s HX 0 rfl
       obtain⟨⟨a0,a1⟩,a2,a3⟩:=box4s HX 7 rfl
       have e0:=HX.ro (HE.out q0 true hu.out) hbE
       clear HX
       refine wp_region_tree (fun w'=>((w'.cell? ⟨w3.heap.size,3,none⟩=some (.slice (some ⟨gW,0,none⟩) a.noted.length kW)/\w'.cell? ⟨w.heap.size,2,none⟩=some (.slice (some ⟨bE,oE,none⟩) q f))/\w'.cell? ⟨gW,q0,none⟩=some (.bool false))/\w'.cell? ⟨bE,oE+q0,none⟩=some (.bool true)) 28 [] (.take 0 (.take 1 (.take 2 (.take 3 (.take 4 (.take 5 (.take 6 (.take 7 (.take 8 (.take 9 (.take 10 (.take 11 (.take 12 (.take 13 (.take 14 (.take 15 (.take 16 (.take 17 (.take 18 (.take 19 (.take 20 (.take 21 (.take 22 (.take 23 (.take 24 (.take 25 (.take 26 (.take 27 (.alt 28 (.done) (.stop)))))))))))))))))))))))))))))) (by kernel_rfl) (by kernel_rfl) (by kernel_rfl) (⟨⟨⟨x3,a2⟩,n0⟩,e0⟩) ?_
       simp only[fillT,lgz,Nat.reduceBEq]
       repeat first|(with_reducible apply po_take;(·(go_simp;done));(·(intro w' hS';(try dsimp only at hS');go_simp;try with_reducible rfl));simp only[lpa])|(with_reducible apply po_skip;(·(go_simp;done));simp only[lpa])
       with_reducible refine po_last ?_ (fun K hK=>?_)
       ·(go_simp;done)
       go_simp
       refine hK.out _ _ (.inl rfl) ?_
       clear hK K
       refine po_done ?_
       go_wp2_with fail
       go_meet
       exact HD
    ·have HNo:Hid (agNote a o=a.noted.set q0 true):=HN0
     have hU:undef=Value.tuple #[]:=rfl
     have HX:=HZ.drew
     obtain⟨n0,nf⟩:=HX.elem 4 rfl (j:=q0) (u:=.bool true) (by rw[List.getElem?_map,hx.out];rfl)
     have HD:=HX.putRow 4 rfl q0 (.bool true)
     simp only[lsz]at HD
     rw[bools_set,<-HNo.out]at HD
     obtain⟨⟨x0,x1⟩,x2,x3⟩:=box4s HX 0 rfl
     obtain⟨⟨a0,a1⟩,a2,a3⟩:=box4s HX 7 rfl
     have e0:=HX.ro (HE.out q0 u hu.out) hbE
     clear HX
     refine wp_region_tree (fun w'=>((w'.cell? ⟨w3.heap.size,3,none⟩=some (.slice (some ⟨gW,0,none⟩) a.noted.length kW)/\w'.cell? ⟨w.heap.size,2,none⟩=some (.slice (some ⟨bE,oE,none⟩) q f))/\w'.cell? ⟨gW,q0,none⟩=some (.bool true))/\w'.cell? ⟨bE,oE+q0,none⟩=some (.bool u)) 28 [] (.take 0 (.take 1 (.take 2 (.take 3 (.take 4 (.take 5 (.take 6 (.take 7 (.take 8 (.take 9 (.take 10 (.take 11 (.take 12 (.take 13 (.take 14 (.take 15 (.take 16 (.take 17 (.take 18 (.take 19 (.take 20 (.take 21 (.take 22 (.take 23 (.take 24 (.take 25 (.take 26 (.take 27 (.alt 28 (.done) (.stop)))))))))))))))))))))))))))))) (by kernel_rfl) (by kernel_rfl) (by kernel_rfl) (⟨⟨⟨x3,a2⟩,n0⟩,e0⟩) ?_
     simp only[fillT,lgz,Nat.reduceBEq]
     repeat first|(with_reducible apply po_take;(·(go_simp;done));(·(intro w' hS';(try dsimp only at hS');go_simp;try with_reducible rfl));simp only[lpa])|(with_reducible apply po_skip;(·(go_simp;done));simp only[lpa])
     with_reducible refine po_last ?_ (fun K hK=>?_)
     ·(go_simp;done)
     go_simp
     refine hK.out _ _ (.inl rfl) ?_
     clear hK K
     refine po_done ?_
     go_wp2_with fail
     go_meet
     exact HD
theorem mDo_roots3 {h:Hp}{o:Cmd}{p:Nat}(h3:o.op=3):(mDo h o p).roots=h.roots:=by
 unfold mDo
 rw[if_neg (by omega),if_neg (by omega),if_pos h3]
set_option maxHeartbeats 6400000 in
set_option maxRecDepth 20000 in
theorem specPaintCommand_any (w:World) (B:Nat) (v:Value) (p:Pt) (hh:RdPt w B v p) (o:Cmd) (P:PtOk p) (hc:cmdOk o=true) (hl40:p.store.cells.length<40):
  Calls Tryz.prog 72 #[v,cmdV o] w fun e w'=>∃ b,MadePtB w (ptCmd p o) b e w':=by
 have hh':=hh.top
 obtain⟨D,m,d,D',m',d',E,q,f,rfl,hC,hR,hE⟩:=hh.top
 have HP:=hid P
 have HCo:=hid hc
 have hst:RdH w w.heap.size (.agg #[.slice D m d,.slice D' m' d']) p.store:=⟨_,_,_,_,_,_,rfl,hC,hR⟩
 have HV:=hid (mPoss_yes (good_iff.2 P.good) hc)
 have s4:p.store.cells.length<=1048576:=by omega
 have hfl:=mFree_le p.store
 have hcl1:p.cols.length<=p.store.cells.length:=by rw[P.len];exact Nat.le_refl _
 have hcl2:p.store.cells.length<=p.cols.length:=by rw[P.len];exact Nat.le_refl _
 have H:=(((Owns.nil w).box [.slice D m d,.slice D' m' d',.slice E q f,.bool p.act] 109).box [.int .i64 o.op,.int .i64 o.a,.int .i64 o.b,.int .i64 o.c] 79).box [.slice none 0 0,.slice none 0 0,.slice none 0 0,.bool false] 109
 simp only[lnm]at H
 obtain⟨⟨a0,a1⟩,a2,a3⟩:=box4s H 2 rfl
 clear P hc
 go_enter Tryz.func72,Tryz.ntmps72
 go_wp2_with fail
 refine (specPaintValid_yes _ _ _ p (hh'.below H.below) HP.out).mono ?_
 rintro e w1 ⟨rfl,hb⟩
 replace H:=H.call hb
 clear hb a0 a1 a2 a3
 obtain⟨⟨b0,b1⟩,b2,b3⟩:=box4s H 1 rfl
 go_wp2_with fail
 refine (specCommandValid_any o _).mono ?_
 rintro e w2 ⟨rfl,hb⟩
 rw[HCo.out]
 replace H:=H.call hb
 clear hb b0 b1 b2 b3
 obtain⟨⟨a0,a1⟩,a2,a3⟩:=box4s H 2 rfl
 go_wp2_with fail
 refine (l18Copy_any _ _ _ p (hh'.below H.below) HP.out).mono ?_
 rintro e w3 ⟨cv,rvs,rv,ov,rfl,K⟩
 replace K:=H.merge K
 simp only[lca]at K
 obtain⟨C,kC,rfl,-⟩:=K.formC 0 rfl
 obtain⟨R,kR,rfl,-⟩:=K.formI 1 rfl
 obtain⟨V,kV,rfl,-⟩:=K.formI 2 rfl
 clear H a0 a1 a2 a3
 replace K:=K.box [.slice C p.store.cells.length kC,.slice R p.store.roots.length kR,.slice V p.cols.length kV,.bool p.act] 109
 obtain⟨⟨a0,a1⟩,a2,a3⟩:=box4s K 6 rfl
 go_wp2_with fail
 refine (l10Place_any _ _ _ p.store (hst.below K.below) s4).mono ?_
 rintro e w4 ⟨rfl,hb⟩
 replace K:=K.call hb
 clear hb a0 a1 a2 a3
 obtain⟨pl,hp⟩:∃ pl,pl=mFree p.store:=⟨_,rfl⟩
 rw[<-hp]at hfl⊢
 have HPf:=hid hp
 clear hp
 go_upto_region 5 with fail
 go_cut [35] (fun s wx=>s=.bool (!canB p.store o)/\Owns w.heap.size w wx [.box w3.heap.size [.slice C p.store.cells.length kC,.slice R p.store.roots.length kR,.slice V p.cols.length kV,.bool p.act] 109,.cells (.slice C p.store.cells.length kC) rvs p.store.cells,.ints (.slice R p.store.roots.length kR) p.store.roots,.ints (.slice V p.cols.length kV) p.cols,.box (w.heap.size+2) [.slice none 0 0,.slice none 0 0,.slice none 0 0,.bool false] 109,.box (w.heap.size+1) [.int .i64 o.op,.int .i64 o.a,.int .i64 o.b,.int .i64 o.c] 79,.box w.heap.size [.slice D m d,.slice D' m' d',.slice E q f,.bool p.act] 109])
 case first =>
  obtain⟨⟨a0,a1⟩,a2,a3⟩:=box4s K 6 rfl
  obtain⟨⟨b0,b1⟩,b2,b3⟩:=box4s K 5 rfl
  go_wp2_with fail
  refine (specPossible_any _ _ _ p.store (hst.below K.below) o).mono ?_
  rintro e w5 ⟨rfl,hb⟩
  rw[HV.out]
  replace K:=K.call hb
  clear hb a0 a1 a2 a3 b0 b1 b2 b3
  obtain⟨⟨b0,b1⟩,b2,b3⟩:=box4s K 5 rfl
  cases hps:possB p.store o
  ·have HF:Hid (canB p.store o=false):=hid (by simp[canB,hps])
   clear hps
   go_wp2
   go_meet
   exact⟨by rw[HF.out];rfl,K⟩
  by_cases h1:o.op=1
  ·have k1:(o.op == 1)=true:=by simp[h1]
   have HF:Hid (canB p.store o=true):=hid (by simp[canB,hps,h1];rw[<-HPf.out];omega)
   have k2:((pl:Int) == 40)=false:=by simp;omega
   clear hps h1
   go_wp2
   go_meet
   exact⟨by rw[HF.out];rfl,K⟩
  ·have k1:(o.op == 1)=false:=by simp[h1]
   have HF:Hid (canB p.store o=true):=hid (by simp[canB,hps,h1])
   clear hps h1
   go_wp2
   go_meet
   exact⟨by rw[HF.out];rfl,K⟩
 case rest =>
  obtain⟨rfl,HC⟩:=hcut
  clear K
  have HS:=hid (ptCmd_can p o)
  cases hb:canB p.store o
  ·rw[hb]at HS
   have HZd:Hid (ptCmd p o=p):=HS
   clear hb HS
   obtain⟨⟨x0,x1⟩,x2,x3⟩:=box4s HC 0 rfl
   obtain⟨y0,y1,y2,y3,y4,y5,y6,y7⟩:=box4 HC 4 rfl
   have HY:=(((HC.putBox 4 rfl 0 (.slice C p.store.cells.length kC)).putBox 4 rfl 1 (.slice R p.store.roots.length kR)).putBox 4 rfl 2 (.slice V p.cols.length kV)).putBox 4 rfl 3 (.bool p.act)
   simp only[lsz]at HY
   obtain⟨z0,z1,z2,z3,-,-,-,-⟩:=box4 HY 4 rfl
   have HQ:Hid (∃ b,MadePtB w (ptCmd p o) b (.returned (.tuple #[.agg #[.slice C p.store.cells.length kC,.slice R p.store.roots.length kR,.slice V p.cols.length kV,.bool p.act],.bool false])) _):=hid (by rw[HZd.out];exact⟨_,_,rvs,_,_,rfl,HY.order [1,2,3] (by decide) rfl⟩)
   clear HY HC
   go_wp2
   exact bodyPost_ret (by simp[results,Tryz.results72,go_sem,z0,z1,z2,z3]) rfl HQ.out
  ·rw[hb]at HS
   have HTl:=hid (ptTo_lt HP.out HCo.out hl40 hb)
   have HT:Hid (ptCmd p o=⟨mDo p.store o (mFree p.store),if p.act then greyI (ptGrow (mDo p.store o (mFree p.store)).cells.length p.cols) (ptTo p.store o (mFree p.store)) else ptGrow (mDo p.store o (mFree p.store)).cells.length p.cols,p.act⟩):=HS
   have HPo:=hid (can_poss hb).1
   have HcA:=hid (cmd_a HCo.out)
   have HR4:=hid HP.out.good.roots
   have HTo:Hid (ptTo p.store o (mFree p.store)=if o.op=1\/o.op=2\/o.op=4 then rootI (mDo p.store o (mFree p.store)) o.a else if o.op=3 then rootI p.store o.b else -1):=hid rfl
   have HG4:Hid ((mDo p.store o (mFree p.store)).roots.length=4):=hid (by
    have h1:=(ptCmd_ok HP.out HCo.out hl40).good.roots
    rw[HT.out]at h1;exact h1)
   have HRs:Hid (o.op=3->(mDo p.store o (mFree p.store)).roots=p.store.roots):=hid fun h3=>mDo_roots3 h3
   have HL1:=hid (fun (h1:o.op=1) (hp:pl=p.store.cells.length)=>len_new h1 hp)
   have HL2:=hid (fun (h1:o.op=1) (hp:pl<p.store.cells.length)=>len_old h1 hp)
   have HL3:=hid (fun (h1:¬ o.op=1)=>(mDo_len (o:=o) hfl).2.1 h1)
   rw[<-HPf.out]at HT HTo HTl HG4 HRs
   obtain⟨y,hy⟩:∃ y,y=ptTo p.store o pl:=⟨_,rfl⟩
   rw[<-hy]at HTl HT HTo
   clear hb HS hy
   obtain⟨⟨a0,a1⟩,a2,a3⟩:=box4s HC 6 rfl
   obtain⟨⟨b0,b1⟩,b2,b3⟩:=box4s HC 5 rfl
   go_wp2_with fail
   refine (l8Do_at _ _ _ p.store (hst.below HC.below) o HP.out.good HCo.out HPo.out pl hfl).mono ?_
   rintro e w7 ⟨cv,rvs',rv,rfl,K⟩
   replace K:=HC.merge K
   simp only[lca]at K
   obtain⟨T,hT⟩:∃ T,T=mDo p.store o pl:=⟨_,rfl⟩
   rw[<-hT]at K HT HL1 HL2 HL3 HTo HTl HG4 HRs
   obtain⟨C',kC',rfl,-⟩:=K.formC 0 rfl
   obtain⟨R',kR',rfl,-⟩:=K.formI 1 rfl
   clear hT HC a0 a1 a2 a3 b0 b1 b2 b3
   obtain⟨y0,y1,y2,y3,y4,y5,y6,y7⟩:=box4 K 2 rfl
   have HZ:=((K.putBox 2 rfl 0 (.slice C' T.cells.length kC')).putBox 2 rfl 1 (.slice R' T.roots.length kR')).places [2,0,1,5,6,7,8] (by decide) (by simp)
   simp only[lfm,lsz]at HZ
   generalize w3.heap.size=gx at *
   go_upto_region 8 with fail
   clear K y0 y1 y2 y3 y4 y5 y6 y7
   generalize World.setCell _ _ _=wz at HZ⊢
   go_cut [52] (fun s wx=>s=.bool (decide (p.cols.length<T.cells.length))/\wx=wz)
   case first =>
    obtain⟨⟨x0,x1⟩,x2,x3⟩:=box4s HZ 0 rfl
    obtain⟨⟨b0,b1⟩,b2,b3⟩:=box4s HZ 5 rfl
    by_cases h1:o.op=1
    ·have k1:(o.op == 1)=true:=by simp[h1]
     by_cases hpl:pl=p.store.cells.length
     ·have HLn:=hid (HL1.out h1 hpl)
      have HG:Hid (decide (p.cols.length<T.cells.length)=true):=hid (decide_eq_true (by rw[HLn.out];omega))
      have k2:((pl:Int) == (p.cols.length:Int))=true:=by simp;omega
      clear h1 hpl HT HL1 HL2 HL3 HLn
      go_wp2_with fail
      go_meet
      exact⟨by rw[HG.out],rfl⟩
     ·have HLn:=hid (HL2.out h1 (by omega))
      have HG:Hid (decide (p.cols.length<T.cells.length)=false):=hid (decide_eq_false (by rw[HLn.out];omega))
      have k2:((pl:Int) == (p.cols.length:Int))=false:=by simp;omega
      clear h1 hpl HT HL1 HL2 HL3 HLn
      go_wp2_with fail
      go_meet
      exact⟨by rw[HG.out],rfl⟩
    ·have k1:(o.op == 1)=false:=by simp[h1]
     have HLn:=hid (HL3.out h1)
     have HG:Hid (decide (p.cols.length<T.cells.length)=false):=hid (decide_eq_false (by rw[HLn.out];omega))
     clear h1 HT HL1 HL2 HL3 HLn
     go_wp2_with fail
     go_meet
     exact⟨by rw[HG.out],rfl⟩
   case rest =>
   obtain⟨rfl,hcw⟩:=hcut
   cases hcw
   have HGd:=hid (rfl:decide (p.cols.length<T.cells.length)=decide (p.cols.length<T.cells.length))
   generalize hgb:decide (p.cols.length<T.cells.length)=gb at HGd⊢
   replace HGd:=hid hgb
   clear hgb
   go_upto_if 52 with fail
   go_cut [] (fun wx=>∃ (A3:Option Addr) (k3:Nat),Owns w.heap.size w wx [.box gx [.slice C' T.cells.length kC',.slice R' T.roots.length kR',.slice A3 (ptGrow T.cells.length p.cols).length k3,.bool p.act] 109,.cells (.slice C' T.cells.length kC') rvs' T.cells,.ints (.slice R' T.roots.length kR') T.roots,.ints (.slice A3 (ptGrow T.cells.length p.cols).length k3) (ptGrow T.cells.length p.cols),.box (w.heap.size+2) [.slice none 0 0,.slice none 0 0,.slice none 0 0,.bool false] 109,.box (w.heap.size+1) [.int .i64 o.op,.int .i64 o.a,.int .i64 o.b,.int .i64 o.c] 79,.box w.heap.size [.slice D m d,.slice D' m' d',.slice E q f,.bool p.act] 109])
   case first =>
    obtain⟨⟨x0,x1⟩,x2,x3⟩:=box4s HZ 0 rfl
    cases gb
    ·have HG:Hid (ptGrow T.cells.length p.cols=p.cols):=hid (by unfold ptGrow;rw[if_neg (of_decide_eq_false HGd.out)])
     clear HT HL1 HL2 HL3
     go_wp2_with fail
     go_meet
     exact⟨V,kV,by rw[HG.out];exact HZ⟩
    ·have HG:Hid (ptGrow T.cells.length p.cols=p.cols++[0]):=hid (by unfold ptGrow;rw[if_pos (of_decide_eq_true HGd.out)])
     clear HT HL1 HL2 HL3
     have H1:=HZ.litI [0] one_le_maxLen
     simp only[lml]at H1
     obtain⟨y0,y1,y2,y3,y4,y5,y6,y7⟩:=box4 H1 1 rfl
     clear HZ
     go_wp2_with (at_builtin;go_loud (refine wpList_pushO rfl (.tmp 54) (.tmp 55) rfl H1 4 rfl rfl rfl (H1.owI 0 rfl).rdI (by omega) ?_;intro A3 k3 w8 H2;simp only[lsz]at H2;generalize hM:p.cols++[0]=M at *;clear x0 x1 x2 x3 y0 y1 y2 y3 y4 y5 y6 y7;obtain⟨x0,x1,x2,x3,x4,x5,x6,x7⟩:=box4 H2 1 rfl))
     have H3:=(H2.putBox 1 rfl 2 (.slice A3 M.length k3)).drop 1
     simp only[lsz,List.drop_succ_cons,List.drop_zero]at H3
     clear H1 H2 x0 x1 x2 x3 x4 x5 x6 x7
     go_meet
     exact⟨A3,k3,by rw[HG.out];exact H3⟩
   case rest =>
    obtain⟨A3,k3,H⟩:=hcut
    obtain⟨M,hM⟩:∃ M,M=ptGrow T.cells.length p.cols:=⟨_,rfl⟩
    rw[<-hM]at H HT HTl
    have HMl:Hid (M.length<=1048576):=hid (by rw[hM];unfold ptGrow;split;(rw[List.length_append];simp only[List.length_cons,List.length_nil];omega);omega)
    have l9:4<=T.roots.length:=by rw[HG4.out];exact Nat.le_refl _
    have i1:=HcA.out.1
    have i2:=HcA.out.2
    have i3:o.a<(T.roots.length:Int):=by omega
    clear hM HZ HL1 HL2 HL3 HGd
    obtain⟨⟨g0,g1⟩,g2,g3⟩:=box4s H 6 rfl
    cases hact:p.act
    ·have HZd:Hid (ptCmd p o=⟨T,M,p.act⟩):=hid (by rw[HT.out,hact];rfl)
     rw[hact]at g3
     clear hact
     obtain⟨⟨x0,x1⟩,x2,x3⟩:=box4s H 0 rfl
     obtain⟨y0,y1,y2,y3,y4,y5,y6,y7⟩:=box4 H 4 rfl
     have HY:=(((H.putBox 4 rfl 0 (.slice C' T.cells.length kC')).putBox 4 rfl 1 (.slice R' T.roots.length kR')).putBox 4 rfl 2 (.slice A3 M.length k3)).putBox 4 rfl 3 (.bool p.act)
     simp only[lsz]at HY
     obtain⟨z0,z1,z2,z3,-,-,-,-⟩:=box4 HY 4 rfl
     have HQ:Hid (∃ b,MadePtB w (ptCmd p o) b (.returned (.tuple #[.agg #[.slice C' T.cells.length kC',.slice R' T.roots.length kR',.slice A3 M.length k3,.bool p.act],.bool true])) _):=hid (by rw[HZd.out];exact⟨_,_,rvs',_,_,rfl,HY.order [1,2,3] (by decide) rfl⟩)
     clear HY H
     go_wp2
     exact bodyPost_ret (by simp[results,Tryz.results72,go_sem,z0,z1,z2,z3]) rfl HQ.out
    have HZd:Hid (ptCmd p o=⟨T,greyI M y,p.act⟩):=hid (by rw[HT.out,hact];rfl)
    rw[hact]at g3
    clear hact
    by_cases h3:o.op=3
    ·have HcB:=hid (cmd_b HCo.out (.inr (.inl h3)))
     have HyW:Hid (T.roots[o.b.toNat]?=some y):=hid (by rw[HRs.out h3,HTo.out,if_neg (by omega),if_pos h3];exact (rootI_at HR4.out HcB.out.1 HcB.out.2).out)
     have HyV:=HyW
     have c1:=HcB.out.1
     have c2:=HcB.out.2
     have c3:o.b<(T.roots.length:Int):=by omega
     have n1:(o.op == 1)=false:=by simp only[beq_eq_false_iff_ne,ne_eq];omega
     have n2:(o.op == 2)=false:=by simp only[beq_eq_false_iff_ne,ne_eq];omega
     have n4:(o.op == 4)=false:=by simp only[beq_eq_false_iff_ne,ne_eq];omega
     have n3:(o.op == 3)=true:=by simp[h3]
     clear h3
     obtain⟨⟨x0,x1⟩,x2,x3⟩:=box4s H 0 rfl
     obtain⟨⟨b0,b1⟩,b2,b3⟩:=box4s H 5 rfl
     obtain⟨gR,cR,e,-,-,-,-⟩:=H.rowAt 2 rfl (by omega)
     simp only[Value.slice.injEq,true_and]at e
     obtain⟨rfl,rfl⟩:=e
     obtain⟨m0,-⟩:=H.elem 2 rfl (j:=o.b.toNat) (u:=.int .i64 y) (by rw[List.getElem?_map,HyV.out];rfl)
     clear HyV
     go_upto_region 17 with fail
     clear x0 x1 x2 x3 b0 b1 b2 b3 m0 g0 g1 g2 g3
     have HX:=(H.order [3,0,1,2,4,5,6] (L':=[.rowN (.slice A3 M.length k3) M.length M,.box gx [.slice C' T.cells.length kC',.slice (some ⟨gR,0,none⟩) T.roots.length kR',.slice A3 M.length k3,.bool p.act] 109,.cells (.slice C' T.cells.length kC') rvs' T.cells,.ints (.slice (some ⟨gR,0,none⟩) T.roots.length kR') T.roots,.box (w.heap.size+2) [.slice none 0 0,.slice none 0 0,.slice none 0 0,.bool false] 109,.box (w.heap.size+1) [.int .i64 o.op,.int .i64 o.a,.int .i64 o.b,.int .i64 o.c] 79,.box w.heap.size [.slice D m d,.slice D' m' d',.slice E q f,.bool p.act] 109]) (by decide) rfl).drew
     clear H
     obtain⟨⟨x0,x1⟩,x2,x3⟩:=box4s HX 1 rfl
     obtain⟨⟨b0,b1⟩,b2,b3⟩:=box4s HX 5 rfl
     obtain⟨m0,-⟩:=HX.elem 3 rfl (j:=o.b.toNat) (u:=.int .i64 y) (by rw[List.getElem?_map,HyW.out];rfl)
     refine wp_region_tree (fun w'=>(((w'.cell? ⟨gx,0,none⟩=some (.slice C' T.cells.length kC')/\w'.cell? ⟨gx,1,none⟩=some (.slice (some ⟨gR,0,none⟩) T.roots.length kR'))/\w'.cell? ⟨gx,2,none⟩=some (.slice A3 M.length k3)/\w'.cell? ⟨gx,3,none⟩=some (.bool p.act))/\w'.cell? ⟨w.heap.size+1,2,none⟩=some (.int .i64 o.b))/\w'.cell? ⟨gR,o.b.toNat,none⟩=some (.int .i64 y)) 8 [] (.take 0 (.take 1 (.take 2 (.take 3 (.take 4 (.take 5 (.take 6 (.take 7 (.alt 8 (.done) (.stop)))))))))) (by kernel_rfl) (by kernel_rfl) (by kernel_rfl) (⟨⟨⟨⟨x0,x1⟩,x2,x3⟩,b2⟩,m0⟩) ?_
     simp only[fillT,lgz,Nat.reduceBEq]
     repeat first|(with_reducible apply po_take;(·(go_simp;done));(·(intro w' hS';(try dsimp only at hS');go_simp;try with_reducible rfl));simp only[lpa])|(with_reducible apply po_skip;(·(go_simp;done));simp only[lpa])
     with_reducible refine po_last ?_ (fun K hK=>?_)
     ·(go_simp;done)
     go_simp
     refine (grey1_own HX rfl y HTl.out HMl.out).mono ?_
     rintro e w8 ⟨⟨u,rfl⟩,H2⟩
     refine hK.out _ _ (.inl rfl) ?_
     clear hK K
     refine po_done ?_
     clear HX x0 x1 x2 x3 b0 b1 b2 b3 m0
     have H:=H2.order [1,2,3,0,4,5,6] (L':=[.box gx [.slice C' T.cells.length kC',.slice (some ⟨gR,0,none⟩) T.roots.length kR',.slice A3 M.length k3,.bool p.act] 109,.cells (.slice C' T.cells.length kC') rvs' T.cells,.ints (.slice (some ⟨gR,0,none⟩) T.roots.length kR') T.roots,.ints (.slice A3 M.length k3) (greyI M y),.box (w.heap.size+2) [.slice none 0 0,.slice none 0 0,.slice none 0 0,.bool false] 109,.box (w.heap.size+1) [.int .i64 o.op,.int .i64 o.a,.int .i64 o.b,.int .i64 o.c] 79,.box w.heap.size [.slice D m d,.slice D' m' d',.slice E q f,.bool p.act] 109]) (by decide) (by rw[<-rowN_ints (show (greyI M y).length=M.length from greyI_len M y)];rfl)
     clear H2
     obtain⟨⟨x0,x1⟩,x2,x3⟩:=box4s H 0 rfl
     obtain⟨y0,y1,y2,y3,y4,y5,y6,y7⟩:=box4 H 4 rfl
     have HY:=(((H.putBox 4 rfl 0 (.slice C' T.cells.length kC')).putBox 4 rfl 1 (.slice (some ⟨gR,0,none⟩) T.roots.length kR')).putBox 4 rfl 2 (.slice A3 M.length k3)).putBox 4 rfl 3 (.bool p.act)
     simp only[lsz]at HY
     obtain⟨z0,z1,z2,z3,-,-,-,-⟩:=box4 HY 4 rfl
     have HQ:Hid (∃ b,MadePtB w (ptCmd p o) b (.returned (.tuple #[.agg #[.slice C' T.cells.length kC',.slice (some ⟨gR,0,none⟩) T.roots.length kR',.slice A3 M.length k3,.bool p.act],.bool true])) _):=hid (by rw[HZd.out];exact⟨_,_,rvs',_,_,rfl,HY.order [1,2,3] (by decide) rfl⟩)
     clear HY H
     go_wp2
     exact bodyPost_ret (by simp[results,Tryz.results72,go_sem,z0,z1,z2,z3]) rfl HQ.out
    by_cases hA:o.op=1\/o.op=2\/o.op=4
    ·have HyW:Hid (T.roots[o.a.toNat]?=some y):=hid (by rw[HTo.out,if_pos hA];exact (rootI_at HG4.out HcA.out.1 HcA.out.2).out)
     have HyV:=HyW
     by_cases h1:o.op=1
     ·have n1:(o.op == 1)=true:=by simp[h1]
      clear h1 hA h3
      obtain⟨⟨x0,x1⟩,x2,x3⟩:=box4s H 0 rfl
      obtain⟨⟨b0,b1⟩,b2,b3⟩:=box4s H 5 rfl
      obtain⟨gR,cR,e,-,-,-,-⟩:=H.rowAt 2 rfl (by omega)
      simp only[Value.slice.injEq,true_and]at e
      obtain⟨rfl,rfl⟩:=e
      obtain⟨m0,-⟩:=H.elem 2 rfl (j:=o.a.toNat) (u:=.int .i64 y) (by rw[List.getElem?_map,HyV.out];rfl)
      clear HyV
      go_upto_region 15 with fail
      clear x0 x1 x2 x3 b0 b1 b2 b3 m0 g0 g1 g2 g3
      have HX:=(H.order [3,0,1,2,4,5,6] (L':=[.rowN (.slice A3 M.length k3) M.length M,.box gx [.slice C' T.cells.length kC',.slice (some ⟨gR,0,none⟩) T.roots.length kR',.slice A3 M.length k3,.bool p.act] 109,.cells (.slice C' T.cells.length kC') rvs' T.cells,.ints (.slice (some ⟨gR,0,none⟩) T.roots.length kR') T.roots,.box (w.heap.size+2) [.slice none 0 0,.slice none 0 0,.slice none 0 0,.bool false] 109,.box (w.heap.size+1) [.int .i64 o.op,.int .i64 o.a,.int .i64 o.b,.int .i64 o.c] 79,.box w.heap.size [.slice D m d,.slice D' m' d',.slice E q f,.bool p.act] 109]) (by decide) rfl).drew
      clear H
      obtain⟨⟨x0,x1⟩,x2,x3⟩:=box4s HX 1 rfl
      obtain⟨⟨b0,b1⟩,b2,b3⟩:=box4s HX 5 rfl
      obtain⟨m0,-⟩:=HX.elem 3 rfl (j:=o.a.toNat) (u:=.int .i64 y) (by rw[List.getElem?_map,HyW.out];rfl)
      refine wp_region_tree (fun w'=>(((w'.cell? ⟨gx,0,none⟩=some (.slice C' T.cells.length kC')/\w'.cell? ⟨gx,1,none⟩=some (.slice (some ⟨gR,0,none⟩) T.roots.length kR'))/\w'.cell? ⟨gx,2,none⟩=some (.slice A3 M.length k3)/\w'.cell? ⟨gx,3,none⟩=some (.bool p.act))/\w'.cell? ⟨w.heap.size+1,1,none⟩=some (.int .i64 o.a))/\w'.cell? ⟨gR,o.a.toNat,none⟩=some (.int .i64 y)) 8 [] (.take 0 (.take 1 (.take 2 (.take 3 (.take 4 (.take 5 (.take 6 (.take 7 (.alt 8 (.done) (.stop)))))))))) (by kernel_rfl) (by kernel_rfl) (by kernel_rfl) (⟨⟨⟨⟨x0,x1⟩,x2,x3⟩,b1⟩,m0⟩) ?_
      simp only[fillT,lgz,Nat.reduceBEq]
      repeat first|(with_reducible apply po_take;(·(go_simp;done));(·(intro w' hS';(try dsimp only at hS');go_simp;try with_reducible rfl));simp only[lpa])|(with_reducible apply po_skip;(·(go_simp;done));simp only[lpa])
      with_reducible refine po_last ?_ (fun K hK=>?_)
      ·(go_simp;done)
      go_simp
      refine (grey1_own HX rfl y HTl.out HMl.out).mono ?_
      rintro e w8 ⟨⟨u,rfl⟩,H2⟩
      refine hK.out _ _ (.inl rfl) ?_
      clear hK K
      refine po_done ?_
      clear HX x0 x1 x2 x3 b0 b1 b2 b3 m0
      have H:=H2.order [1,2,3,0,4,5,6] (L':=[.box gx [.slice C' T.cells.length kC',.slice (some ⟨gR,0,none⟩) T.roots.length kR',.slice A3 M.length k3,.bool p.act] 109,.cells (.slice C' T.cells.length kC') rvs' T.cells,.ints (.slice (some ⟨gR,0,none⟩) T.roots.length kR') T.roots,.ints (.slice A3 M.length k3) (greyI M y),.box (w.heap.size+2) [.slice none 0 0,.slice none 0 0,.slice none 0 0,.bool false] 109,.box (w.heap.size+1) [.int .i64 o.op,.int .i64 o.a,.int .i64 o.b,.int .i64 o.c] 79,.box w.heap.size [.slice D m d,.slice D' m' d',.slice E q f,.bool p.act] 109]) (by decide) (by rw[<-rowN_ints (show (greyI M y).length=M.length from greyI_len M y)];rfl)
      clear H2
      obtain⟨⟨x0,x1⟩,x2,x3⟩:=box4s H 0 rfl
      obtain⟨y0,y1,y2,y3,y4,y5,y6,y7⟩:=box4 H 4 rfl
      have HY:=(((H.putBox 4 rfl 0 (.slice C' T.cells.length kC')).putBox 4 rfl 1 (.slice (some ⟨gR,0,none⟩) T.roots.length kR')).putBox 4 rfl 2 (.slice A3 M.length k3)).putBox 4 rfl 3 (.bool p.act)
      simp only[lsz]at HY
      obtain⟨z0,z1,z2,z3,-,-,-,-⟩:=box4 HY 4 rfl
      have HQ:Hid (∃ b,MadePtB w (ptCmd p o) b (.returned (.tuple #[.agg #[.slice C' T.cells.length kC',.slice (some ⟨gR,0,none⟩) T.roots.length kR',.slice A3 M.length k3,.bool p.act],.bool true])) _):=hid (by rw[HZd.out];exact⟨_,_,rvs',_,_,rfl,HY.order [1,2,3] (by decide) rfl⟩)
      clear HY H
      go_wp2
      exact bodyPost_ret (by simp[results,Tryz.results72,go_sem,z0,z1,z2,z3]) rfl HQ.out
     by_cases h2:o.op=2
     ·have n2:(o.op == 2)=true:=by simp[h2]
      have n1:(o.op == 1)=false:=by simp only[beq_eq_false_iff_ne,ne_eq];omega
      clear h1 h2 hA h3
      obtain⟨⟨x0,x1⟩,x2,x3⟩:=box4s H 0 rfl
      obtain⟨⟨b0,b1⟩,b2,b3⟩:=box4s H 5 rfl
      obtain⟨gR,cR,e,-,-,-,-⟩:=H.rowAt 2 rfl (by omega)
      simp only[Value.slice.injEq,true_and]at e
      obtain⟨rfl,rfl⟩:=e
      obtain⟨m0,-⟩:=H.elem 2 rfl (j:=o.a.toNat) (u:=.int .i64 y) (by rw[List.getElem?_map,HyV.out];rfl)
      clear HyV
      go_upto_region 15 with fail
      clear x0 x1 x2 x3 b0 b1 b2 b3 m0 g0 g1 g2 g3
      have HX:=(H.order [3,0,1,2,4,5,6] (L':=[.rowN (.slice A3 M.length k3) M.length M,.box gx [.slice C' T.cells.length kC',.slice (some ⟨gR,0,none⟩) T.roots.length kR',.slice A3 M.length k3,.bool p.act] 109,.cells (.slice C' T.cells.length kC') rvs' T.cells,.ints (.slice (some ⟨gR,0,none⟩) T.roots.length kR') T.roots,.box (w.heap.size+2) [.slice none 0 0,.slice none 0 0,.slice none 0 0,.bool false] 109,.box (w.heap.size+1) [.int .i64 o.op,.int .i64 o.a,.int .i64 o.b,.int .i64 o.c] 79,.box w.heap.size [.slice D m d,.slice D' m' d',.slice E q f,.bool p.act] 109]) (by decide) rfl).drew
      clear H
      obtain⟨⟨x0,x1⟩,x2,x3⟩:=box4s HX 1 rfl
      obtain⟨⟨b0,b1⟩,b2,b3⟩:=box4s HX 5 rfl
      obtain⟨m0,-⟩:=HX.elem 3 rfl (j:=o.a.toNat) (u:=.int .i64 y) (by rw[List.getElem?_map,HyW.out];rfl)
      refine wp_region_tree (fun w'=>(((w'.cell? ⟨gx,0,none⟩=some (.slice C' T.cells.length kC')/\w'.cell? ⟨gx,1,none⟩=some (.slice (some ⟨gR,0,none⟩) T.roots.length kR'))/\w'.cell? ⟨gx,2,none⟩=some (.slice A3 M.length k3)/\w'.cell? ⟨gx,3,none⟩=some (.bool p.act))/\w'.cell? ⟨w.heap.size+1,1,none⟩=some (.int .i64 o.a))/\w'.cell? ⟨gR,o.a.toNat,none⟩=some (.int .i64 y)) 8 [] (.take 0 (.take 1 (.take 2 (.take 3 (.take 4 (.take 5 (.take 6 (.take 7 (.alt 8 (.done) (.stop)))))))))) (by kernel_rfl) (by kernel_rfl) (by kernel_rfl) (⟨⟨⟨⟨x0,x1⟩,x2,x3⟩,b1⟩,m0⟩) ?_
      simp only[fillT,lgz,Nat.reduceBEq]
      repeat first|(with_reducible apply po_take;(·(go_simp;done));(·(intro w' hS';(try dsimp only at hS');go_simp;try with_reducible rfl));simp only[lpa])|(with_reducible apply po_skip;(·(go_simp;done));simp only[lpa])
      with_reducible refine po_last ?_ (fun K hK=>?_)
      ·(go_simp;done)
      go_simp
      refine (grey1_own HX rfl y HTl.out HMl.out).mono ?_
      rintro e w8 ⟨⟨u,rfl⟩,H2⟩
      refine hK.out _ _ (.inl rfl) ?_
      clear hK K
      refine po_done ?_
      clear HX x0 x1 x2 x3 b0 b1 b2 b3 m0
      have H:=H2.order [1,2,3,0,4,5,6] (L':=[.box gx [.slice C' T.cells.length kC',.slice (some ⟨gR,0,none⟩) T.roots.length kR',.slice A3 M.length k3,.bool p.act] 109,.cells (.slice C' T.cells.length kC') rvs' T.cells,.ints (.slice (some ⟨gR,0,none⟩) T.roots.length kR') T.roots,.ints (.slice A3 M.length k3) (greyI M y),.box (w.heap.size+2) [.slice none 0 0,.slice none 0 0,.slice none 0 0,.bool false] 109,.box (w.heap.size+1) [.int .i64 o.op,.int .i64 o.a,.int .i64 o.b,.int .i64 o.c] 79,.box w.heap.size [.slice D m d,.slice D' m' d',.slice E q f,.bool p.act] 109]) (by decide) (by rw[<-rowN_ints (show (greyI M y).length=M.length from greyI_len M y)];rfl)
      clear H2
      obtain⟨⟨x0,x1⟩,x2,x3⟩:=box4s H 0 rfl
      obtain⟨y0,y1,y2,y3,y4,y5,y6,y7⟩:=box4 H 4 rfl
      have HY:=(((H.putBox 4 rfl 0 (.slice C' T.cells.length kC')).putBox 4 rfl 1 (.slice (some ⟨gR,0,none⟩) T.roots.length kR')).putBox 4 rfl 2 (.slice A3 M.length k3)).putBox 4 rfl 3 (.bool p.act)
      simp only[lsz]at HY
      obtain⟨z0,z1,z2,z3,-,-,-,-⟩:=box4 HY 4 rfl
      have HQ:Hid (∃ b,MadePtB w (ptCmd p o) b (.returned (.tuple #[.agg #[.slice C' T.cells.length kC',.slice (some ⟨gR,0,none⟩) T.roots.length kR',.slice A3 M.length k3,.bool p.act],.bool true])) _):=hid (by rw[HZd.out];exact⟨_,_,rvs',_,_,rfl,HY.order [1,2,3] (by decide) rfl⟩)
      clear HY H
      go_wp2
      exact bodyPost_ret (by simp[results,Tryz.results72,go_sem,z0,z1,z2,z3]) rfl HQ.out
     ·have n4:(o.op == 4)=true:=by simp;omega
      have n1:(o.op == 1)=false:=by simp only[beq_eq_false_iff_ne,ne_eq];omega
      have n2:(o.op == 2)=false:=by simp only[beq_eq_false_iff_ne,ne_eq];omega
      clear h1 h2 hA h3
      obtain⟨⟨x0,x1⟩,x2,x3⟩:=box4s H 0 rfl
      obtain⟨⟨b0,b1⟩,b2,b3⟩:=box4s H 5 rfl
      obtain⟨gR,cR,e,-,-,-,-⟩:=H.rowAt 2 rfl (by omega)
      simp only[Value.slice.injEq,true_and]at e
      obtain⟨rfl,rfl⟩:=e
      obtain⟨m0,-⟩:=H.elem 2 rfl (j:=o.a.toNat) (u:=.int .i64 y) (by rw[List.getElem?_map,HyV.out];rfl)
      clear HyV
      go_upto_region 15 with fail
      clear x0 x1 x2 x3 b0 b1 b2 b3 m0 g0 g1 g2 g3
      have HX:=(H.order [3,0,1,2,4,5,6] (L':=[.rowN (.slice A3 M.length k3) M.length M,.box gx [.slice C' T.cells.length kC',.slice (some ⟨gR,0,none⟩) T.roots.length kR',.slice A3 M.length k3,.bool p.act] 109,.cells (.slice C' T.cells.length kC') rvs' T.cells,.ints (.slice (some ⟨gR,0,none⟩) T.roots.length kR') T.roots,.box (w.heap.size+2) [.slice none 0 0,.slice none 0 0,.slice none 0 0,.bool false] 109,.box (w.heap.size+1) [.int .i64 o.op,.int .i64 o.a,.int .i64 o.b,.int .i64 o.c] 79,.box w.heap.size [.slice D m d,.slice D' m' d',.slice E q f,.bool p.act] 109]) (by decide) rfl).drew
      clear H
      obtain⟨⟨x0,x1⟩,x2,x3⟩:=box4s HX 1 rfl
      obtain⟨⟨b0,b1⟩,b2,b3⟩:=box4s HX 5 rfl
      obtain⟨m0,-⟩:=HX.elem 3 rfl (j:=o.a.toNat) (u:=.int .i64 y) (by rw[List.getElem?_map,HyW.out];rfl)
      refine wp_region_tree (fun w'=>(((w'.cell? ⟨gx,0,none⟩=some (.slice C' T.cells.length kC')/\w'.cell? ⟨gx,1,none⟩=some (.slice (some ⟨gR,0,none⟩) T.roots.length kR'))/\w'.cell? ⟨gx,2,none⟩=some (.slice A3 M.length k3)/\w'.cell? ⟨gx,3,none⟩=some (.bool p.act))/\w'.cell? ⟨w.heap.size+1,1,none⟩=some (.int .i64 o.a))/\w'.cell? ⟨gR,o.a.toNat,none⟩=some (.int .i64 y)) 8 [] (.take 0 (.take 1 (.take 2 (.take 3 (.take 4 (.take 5 (.take 6 (.take 7 (.alt 8 (.done) (.stop)))))))))) (by kernel_rfl) (by kernel_rfl) (by kernel_rfl) (⟨⟨⟨⟨x0,x1⟩,x2,x3⟩,b1⟩,m0⟩) ?_
      simp only[fillT,lgz,Nat.reduceBEq]
      repeat first|(with_reducible apply po_take;(·(go_simp;done));(·(intro w' hS';(try dsimp only at hS');go_simp;try with_reducible rfl));simp only[lpa])|(with_reducible apply po_skip;(·(go_simp;done));simp only[lpa])
      with_reducible refine po_last ?_ (fun K hK=>?_)
      ·(go_simp;done)
      go_simp
      refine (grey1_own HX rfl y HTl.out HMl.out).mono ?_
      rintro e w8 ⟨⟨u,rfl⟩,H2⟩
      refine hK.out _ _ (.inl rfl) ?_
      clear hK K
      refine po_done ?_
      clear HX x0 x1 x2 x3 b0 b1 b2 b3 m0
      have H:=H2.order [1,2,3,0,4,5,6] (L':=[.box gx [.slice C' T.cells.length kC',.slice (some ⟨gR,0,none⟩) T.roots.length kR',.slice A3 M.length k3,.bool p.act] 109,.cells (.slice C' T.cells.length kC') rvs' T.cells,.ints (.slice (some ⟨gR,0,none⟩) T.roots.length kR') T.roots,.ints (.slice A3 M.length k3) (greyI M y),.box (w.heap.size+2) [.slice none 0 0,.slice none 0 0,.slice none 0 0,.bool false] 109,.box (w.heap.size+1) [.int .i64 o.op,.int .i64 o.a,.int .i64 o.b,.int .i64 o.c] 79,.box w.heap.size [.slice D m d,.slice D' m' d',.slice E q f,.bool p.act] 109]) (by decide) (by rw[<-rowN_ints (show (greyI M y).length=M.length from greyI_len M y)];rfl)
      clear H2
      obtain⟨⟨x0,x1⟩,x2,x3⟩:=box4s H 0 rfl
      obtain⟨y0,y1,y2,y3,y4,y5,y6,y7⟩:=box4 H 4 rfl
      have HY:=(((H.putBox 4 rfl 0 (.slice C' T.cells.length kC')).putBox 4 rfl 1 (.slice (some ⟨gR,0,none⟩) T.roots.length kR')).putBox 4 rfl 2 (.slice A3 M.length k3)).putBox 4 rfl 3 (.bool p.act)
      simp only[lsz]at HY
      obtain⟨z0,z1,z2,z3,-,-,-,-⟩:=box4 HY 4 rfl
      have HQ:Hid (∃ b,MadePtB w (ptCmd p o) b (.returned (.tuple #[.agg #[.slice C' T.cells.length kC',.slice (some ⟨gR,0,none⟩) T.roots.length kR',.slice A3 M.length k3,.bool p.act],.bool true])) _):=hid (by rw[HZd.out];exact⟨_,_,rvs',_,_,rfl,HY.order [1,2,3] (by decide) rfl⟩)
      clear HY H
      go_wp2
      exact bodyPost_ret (by simp[results,Tryz.results72,go_sem,z0,z1,z2,z3]) rfl HQ.out
    ·have HZe:Hid (ptCmd p o=⟨T,M,p.act⟩):=hid (by
      rw[HZd.out,HTo.out,if_neg hA,if_neg h3,greyI_neg (by omega)])
     clear HZd
     have HZd:=HZe
     have n1:(o.op == 1)=false:=by simp only[beq_eq_false_iff_ne,ne_eq];omega
     have n2:(o.op == 2)=false:=by simp only[beq_eq_false_iff_ne,ne_eq];omega
     have n4:(o.op == 4)=false:=by simp only[beq_eq_false_iff_ne,ne_eq];omega
     have n3:(o.op == 3)=false:=by simp only[beq_eq_false_iff_ne,ne_eq];omega
     clear hA h3
     obtain⟨⟨b0,b1⟩,b2,b3⟩:=box4s H 5 rfl
     obtain⟨⟨x0,x1⟩,x2,x3⟩:=box4s H 0 rfl
     obtain⟨y0,y1,y2,y3,y4,y5,y6,y7⟩:=box4 H 4 rfl
     have HY:=(((H.putBox 4 rfl 0 (.slice C' T.cells.length kC')).putBox 4 rfl 1 (.slice R' T.roots.length kR')).putBox 4 rfl 2 (.slice A3 M.length k3)).putBox 4 rfl 3 (.bool p.act)
     simp only[lsz]at HY
     obtain⟨z0,z1,z2,z3,-,-,-,-⟩:=box4 HY 4 rfl
     have HQ:Hid (∃ b,MadePtB w (ptCmd p o) b (.returned (.tuple #[.agg #[.slice C' T.cells.length kC',.slice R' T.roots.length kR',.slice A3 M.length k3,.bool p.act],.bool true])) _):=hid (by rw[HZd.out];exact⟨_,_,rvs',_,_,rfl,HY.order [1,2,3] (by decide) rfl⟩)
     clear HY H
     go_wp2
     exact bodyPost_ret (by simp[results,Tryz.results72,go_sem,z0,z1,z2,z3]) rfl HQ.out
set_option maxRecDepth 20000 in
theorem upon_makeIs {lo:Nat}{w0 w:World}{L:List OB}{o:Oper}{a:Act}{K:Act->World->Prop}{Q:Exit->Act->World->Prop}
  (h:Owns lo w0 w L) (kl kc:IntKind) (C1 C2:Int) (n:Nat) (h1:C1=(n:Int)) (h2:C2=(n:Int)) (hn:n<=1048577)
  (hK:∀ g w',Owns lo w0 w' (.ints (.slice (some ⟨g,0,none⟩) n n) (List.replicate n 0)::L)->Below w.heap.size w w'->K (a.put o.dst (.slice (some ⟨g,0,none⟩) n n)) w'):
  Oper.upon Tryz.prog o a K Q ((Sem.run Tryz.prog (Instr.makeSlice 27 (.int kl C1) (.int kc C2)) w).andThen fun a w'=>Result.ok (Next.value a) w'):=by
 subst h1 h2
 have hrun:=run_make_row' (P:=Tryz.prog) 27 3 (.int .i64 0) 8 Tryz.underlying27 Tryz.infoInt rfl kl kc n (by omega) (by omega) w
 have key:∀ m,m=(List.replicate n (0:Int)).length->Owns lo w0 (w.alloc (.cells ((List.replicate n (0:Int)).map (Value.int .i64)).toArray 3)) (.ints (.slice (some ⟨w.heap.size,0,none⟩) m m) (List.replicate n 0)::L):=by
  rintro m rfl
  exact h.litI _ (by simp;unfold maxLen;omega)
 have he:madeCells #[Value.int .i64 0] n=((List.replicate n (0:Int)).map (Value.int .i64)).toArray:=by
  apply Array.ext'
  rw[toList_madeCells_one,List.map_replicate]
 rw[he]at hrun
 have hO:=key n (by simp)
 have hF:=hK w.heap.size _ hO (below_alloc _ _)
 exact upon_ok hrun hF
theorem dead_white (p:Pt):deadL (ptMarks p)=p.cols.map (· == 0):=by
 unfold deadL ptMarks
 rw[List.map_map]
 refine List.map_congr_left fun x _=>?_
 simp[bne]
theorem white_snoc {c:List Int}{k:Nat}{z:Int}(h:Hid (c[k]?=some z)):(c.take (k+1)).map (· == 0)=(c.take k).map (· == 0)++[z == 0]:=by
 rw[take_snoc' h,List.map_append];rfl
set_option maxHeartbeats 6400000 in
set_option maxRecDepth 20000 in
theorem specPaintFinish_any (w:World) (B:Nat) (v:Value) (p:Pt) (hh:RdPt w B v p) (P:PtOk p):
  Calls Tryz.prog 69 #[v] w (MadePtN w (ptFinish p)):=by
 have hh':=hh.top
 obtain⟨D,m,d,D',m',d',E,q,f,rfl,hC,hR,hE⟩:=hh.top
 obtain⟨t1,t2,t3,HN3⟩:=pt_small P
 have HP:=hid P
 have hcl1:p.cols.length<=p.store.cells.length:=by rw[P.len];exact Nat.le_refl _
 have hcl2:p.store.cells.length<=p.cols.length:=by rw[P.len];exact Nat.le_refl _
 have H:=((Owns.nil w).box [.slice D m d,.slice D' m' d',.slice E q f,.bool p.act] 109).box [.slice none 0 0,.slice none 0 0,.slice none 0 0,.bool false] 109
 simp only[lnm]at H
 obtain⟨⟨a0,a1⟩,a2,a3⟩:=box4s H 1 rfl
 clear P
 go_enter Tryz.func69,Tryz.ntmps69
 go_wp2_with fail
 refine (specPaintValid_yes _ _ _ p (hh'.below H.below) HP.out).mono ?_
 rintro e w1 ⟨rfl,hb⟩
 replace H:=H.call hb
 clear hb a0 a1 a2 a3
 obtain⟨⟨a0,a1⟩,a2,a3⟩:=box4s H 1 rfl
 go_wp2_with fail
 refine (l18Copy_any _ _ _ p (hh'.below H.below) HP.out).mono ?_
 rintro e w3 ⟨cv,rvs,rv,ov,rfl,K⟩
 replace K:=H.merge K
 simp only[lca]at K
 obtain⟨C,kC,rfl,-⟩:=K.formC 0 rfl
 obtain⟨R,kR,rfl,-⟩:=K.formI 1 rfl
 obtain⟨V,kV,rfl,-⟩:=K.formI 2 rfl
 clear H a0 a1 a2 a3
 have H:=K.box [.slice C p.store.cells.length kC,.slice R p.store.roots.length kR,.slice V p.cols.length kV,.bool p.act] 109
 clear K
 obtain⟨⟨b0,b1⟩,b2,b3⟩:=box4s H 5 rfl
 obtain⟨⟨x0,x1⟩,x2,x3⟩:=box4s H 0 rfl
 by_cases ha:p.act=false
 ·have HE:=hid (finish_ne ha)
  replace b3:=b3.trans (congrArg (fun b=>some (Value.bool b)) ha)
  clear ha
  obtain⟨y0,y1,y2,y3,y4,y5,y6,y7⟩:=box4 H 4 rfl
  have HZ:=(((H.putBox 4 rfl 0 (.slice C p.store.cells.length kC)).putBox 4 rfl 1 (.slice R p.store.roots.length kR)).putBox 4 rfl 2 (.slice V p.cols.length kV)).putBox 4 rfl 3 (.bool p.act)
  simp only[lsz]at HZ
  obtain⟨z0,z1,z2,z3,-,-,-,-⟩:=box4 HZ 4 rfl
  have HS:Hid (MadePtN w (ptFinish p) (.returned (.tuple #[.agg #[.slice C p.store.cells.length kC,.slice R p.store.roots.length kR,.slice V p.cols.length kV,.bool p.act],.int .i64 0])) _):=hid (by rw[HE.out];exact⟨_,rvs,_,_,_,rfl,HZ.order [1,2,3] (by decide) rfl⟩)
  clear H HZ
  go_wp2
  exact bodyPost_ret (by simp[results,Tryz.results69,go_sem,z0,z1,z2,z3]) rfl HS.out
 replace ha:p.act=true:=by simpa using ha
 have HF:Hid (ptFinish p=⟨mDrop p.store (deadL (ptMarks (ptAll p))),List.replicate p.cols.length 0,false⟩):=hid (by unfold ptFinish;rw[if_pos ha])
 have HT0:=hid (PtTo.start p)
 have HC:Hid (PtOk p/\p.store=p.store/\p.act=true/\p.cols.length=p.cols.length):=hid ⟨HP.out,rfl,ha,rfl⟩
 replace b3:=b3.trans (congrArg (fun b=>some (Value.bool b)) ha)
 clear ha
 go_wp2_with fail
 generalize w3.heap.size=gx at *
 clear b0 b1 b2 b3 x0 x1 x2 x3
 go_loopg [5] (ptLeft p.cols+1) (fun gk v5 wr=>∃ (b:Bool) (p':Pt) (C R V:Option Addr) (kC kR kV:Nat) (rvs:List Value),v5=.bool b/\gk=ptLeft p'.cols+b.toNat/\Hid (PtTo p p')/\Hid (PtOk p'/\p'.store=p.store/\p'.act=true/\p'.cols.length=p.cols.length)/\Hid (b=false->p'=ptAll p)/\Owns w.heap.size w wr [.box gx [.slice C p'.store.cells.length kC,.slice R p'.store.roots.length kR,.slice V p'.cols.length kV,.bool p'.act] 109,.cells (.slice C p'.store.cells.length kC) rvs p'.store.cells,.ints (.slice R p'.store.roots.length kR) p'.store.roots,.ints (.slice V p'.cols.length kV) p'.cols,.box (w.heap.size+1) [.slice none 0 0,.slice none 0 0,.slice none 0 0,.bool false] 109,.box w.heap.size [.slice D m d,.slice D' m' d',.slice E q f,.bool p.act] 109])
 case atStart=>exact⟨true,p,C,R,V,kC,kR,kV,rvs,rfl,rfl,HT0,hid ⟨HC.out.1,rfl,HC.out.2.2.1,rfl⟩,hid (fun h=>by cases h),H⟩
 case round =>
  clear H HT0 HC
  obtain⟨b,p',C,R,V,kC,kR,kV,rvs,rfl,rfl,HT,HA,HD,H⟩:=hrel
  cases b
  rotate_left
  ·have HS:=hid (ptStep_same p')
   obtain⟨⟨x0,x1⟩,x2,x3⟩:=box4s H 0 rfl
   go_wp2_with fail
   refine (specPaintStep_any _ _ _ p' (H.rdPt 1 2 3 rfl rfl rfl) HA.out.1).mono ?_
   rintro e w5 ⟨cv,rvs',rv,ov,rfl,K⟩
   replace K:=H.merge K
   simp only[lca]at K
   clear H x0 x1 x2 x3 HD
   have HX:Hid (∃ b':Bool,decide (ptNext p'<p'.cols.length)=b'/\ptLeft (ptStep p').cols+b'.toNat<ptLeft p'.cols+true.toNat/\PtTo p (ptStep p')/\(b'=false->ptStep p'=ptAll p)):=hid (by
    by_cases hnx:ptNext p'<p'.cols.length
    ·refine⟨true,decide_eq_true hnx,?_,HT.out.next hnx,fun h=>by cases h⟩
     have:=ptStep_left hnx
     simp only[Bool.toNat_true];omega
    ·refine⟨false,decide_eq_false hnx,?_,by rw[ptStep_done hnx];exact HT.out,fun _=>by rw[ptStep_done hnx];exact HT.out.ends hnx⟩
     rw[ptStep_done hnx]
     simp only[Bool.toNat_true,Bool.toNat_false];omega)
   have HA2:Hid (PtOk (ptStep p')/\(ptStep p').store=p.store/\(ptStep p').act=true/\(ptStep p').cols.length=p.cols.length):=hid ⟨ptStep_ok HA.out.1,HS.out.1.trans HA.out.2.1,HS.out.2.1.trans HA.out.2.2.1,HS.out.2.2.trans HA.out.2.2.2⟩
   obtain⟨b',hb',hlt,HT2,HD2⟩:=HX.out
   rw[hb']
   have HT2':=hid HT2
   have HD2':=hid HD2
   have Hlt:=hid hlt
   clear HX hb' hlt HT2 HD2 HT HA HS
   generalize ptStep p'=p'' at *
   obtain⟨C',kC',rfl,-⟩:=K.formC 0 rfl
   obtain⟨R',kR',rfl,-⟩:=K.formI 1 rfl
   obtain⟨V',kV',rfl,-⟩:=K.formI 2 rfl
   have K2:=K.box [.slice C' p''.store.cells.length kC',.slice R' p''.store.roots.length kR',.slice V' p''.cols.length kV',.bool p''.act] 109
   clear K
   obtain⟨⟨x0,x1⟩,x2,x3⟩:=box4s K2 0 rfl
   obtain⟨y0,y1,y2,y3,y4,y5,y6,y7⟩:=box4 K2 4 rfl
   have H3:=((((K2.putBox 4 rfl 0 (.slice C' p''.store.cells.length kC')).putBox 4 rfl 1 (.slice R' p''.store.roots.length kR')).putBox 4 rfl 2 (.slice V' p''.cols.length kV')).putBox 4 rfl 3 (.bool p''.act)).places [4,1,2,3,8,9] (by decide) (by simp)
   simp only[lfm,lsz]at H3
   clear K2
   go_wp2_with fail
   go_roundg (ptLeft p''.cols+b'.toNat)
   case measure=>exact Hlt.out
   case rel=>exact⟨b',p'',C',R',V',kC',kR',kV',rvs',rfl,rfl,HT2',HA2,HD2',H3⟩
  ·have eA:=HD.out rfl
   obtain⟨pst,c,pact⟩:=p'
   obtain⟨P',s1,s2,s3⟩:=HA.out
   simp only at s1 s2 s3 H
   subst s1 s2
   have HAl:Hid (ptAll p=⟨p.store,c,true⟩):=hid eA.symm
   have HF2:Hid (ptFinish p=⟨mDrop p.store (c.map (· == 0)),List.replicate p.cols.length 0,false⟩):=hid (by rw[HF.out,dead_white,HAl.out])
   have s4:c.length<=p.cols.length:=by rw[s3];exact Nat.le_refl _
   have s5:p.cols.length<=c.length:=by rw[s3];exact Nat.le_refl _
   clear HT HA HD eA P' HAl HF s3
   have H4:=H.litB [] zero_le_maxLen
   simp only[List.map_nil,List.length_nil]at H4
   obtain⟨⟨x0,x1⟩,x2,x3⟩:=box4s H 0 rfl
   go_wp2_with fail
   clear H x0 x1 x2 x3
   go_loopw [8,9,10] (fun v8 v9 i wr=>∃ (k f0:Nat),i=.int .i64 k/\k<=c.length/\v9=.int .i64 f0/\f0<=k/\Owns w.heap.size w wr [.bools v8 ((c.take k).map (· == 0)),.box gx [.slice C p.store.cells.length kC,.slice R p.store.roots.length kR,.slice V c.length kV,.bool true] 109,.cells (.slice C p.store.cells.length kC) rvs p.store.cells,.ints (.slice R p.store.roots.length kR) p.store.roots,.ints (.slice V c.length kV) c,.box (w.heap.size+1) [.slice none 0 0,.slice none 0 0,.slice none 0 0,.bool false] 109,.box w.heap.size [.slice D m d,.slice D' m' d',.slice E q f,.bool p.act] 109]) (fun _ _ i _=>c.length - (intOf i).toNat)
   case atStart=>exact⟨0,0,rfl,Nat.zero_le _,rfl,Nat.le_refl _,H4⟩
   case round =>
    clear H4
    obtain⟨k,f0,rfl,hk,rfl,hf0,H⟩:=hrel
    obtain⟨⟨x0,x1⟩,x2,x3⟩:=box4s H 1 rfl
    by_cases hlt:k<c.length
    ·obtain⟨z,hz⟩:∃ z,Hid (c[k]?=some z):=⟨_,hid (List.getElem?_eq_getElem hlt)⟩
     obtain⟨l,hl⟩:∃ l,Hid (p.store.cells[k]?=some l):=⟨_,hid (List.getElem?_eq_getElem (by omega))⟩
     obtain⟨gV,cV,e,-,-,-,-⟩:=H.rowAt 4 rfl (by omega)
     simp only[Value.slice.injEq,true_and]at e
     obtain⟨rfl,rfl⟩:=e
     obtain⟨m0,-⟩:=H.elem 4 rfl (j:=k) (u:=.int .i64 z) (by rw[List.getElem?_map,hz.out];rfl)
     obtain⟨gC,cC,A2,c2,e,-,-,-,-,-,-,-⟩:=H.cellW 2 rfl hl
     simp only[Value.slice.injEq,true_and]at e
     obtain⟨rfl,rfl⟩:=e
     have HW:=hid (white_snoc hz)
     have hLn:((c.take k).map (· == 0)).length<=40:=by rw[List.length_map,List.length_take];omega
     generalize (c.take k).map (· == 0)=X at *
     have HXl:=hid hLn
     have i1:(k:Int)<(c.length:Int):=by omega
     have i2:(k:Int)<(p.store.cells.length:Int):=by omega
     clear hLn
     by_cases z0:z=0
     ·have k1:(z == 0)=true:=by simp[z0]
      rw[k1]at HW
      have H3:=H.litB [true] one_le_maxLen
      simp only[lml]at H3
      clear z0
      cases hu:l.used
      all_goals
       go_wp2_with (at_builtin;go_loud (refine wpList_pushBO rfl (.tmp 37) (.tmp 44) rfl H3 1 rfl rfl rfl (rdB_new' _ _) (by have:=HXl.out;omega) ?_;intro A3 k3 w4 H5;simp only[lsz]at H5;clear x0 x1 x2 x3 m0;obtain⟨⟨x0,x1⟩,x2,x3⟩:=box4s H5 2 rfl;obtain⟨m0,-⟩:=H5.elem 5 rfl (j:=k) (u:=.int .i64 z) (by rw[List.getElem?_map,hz.out];rfl);obtain⟨gC',cC',A2',c2',e,-,y0,-,-,-,-,-⟩:=H5.cellW 3 rfl hl;simp only[Value.slice.injEq,Option.some.injEq,Addr.mk.injEq,true_and,and_true]at e;obtain⟨rfl,rfl⟩:=e;rw[hu]at y0))
       have H6:=H5.erase 0
       simp only[List.eraseIdx_cons_zero]at H6
       go_roundw
       case rel=>first|exact⟨k+1,f0+1,by go_num,by omega,by go_num,by omega,by rw[HW.out];simpa using H6⟩|exact⟨k+1,f0,by go_num,by omega,rfl,by omega,by rw[HW.out];simpa using H6⟩
       case measure=>simp[intOf];omega
     ·have k1:(z == 0)=false:=by simp[z0]
      rw[k1]at HW
      have H3:=H.litB [false] one_le_maxLen
      simp only[lml]at H3
      clear z0
      go_wp2_with (at_builtin;go_loud (refine wpList_pushBO rfl (.tmp 37) (.tmp 44) rfl H3 1 rfl rfl rfl (rdB_new' _ _) (by have:=HXl.out;omega) ?_;intro A3 k3 w4 H5;simp only[lsz]at H5;clear x0 x1 x2 x3 m0;obtain⟨⟨x0,x1⟩,x2,x3⟩:=box4s H5 2 rfl;obtain⟨m0,-⟩:=H5.elem 5 rfl (j:=k) (u:=.int .i64 z) (by rw[List.getElem?_map,hz.out];rfl)))
      have H6:=H5.erase 0
      simp only[List.eraseIdx_cons_zero]at H6
      go_roundw
      case rel=>exact⟨k+1,f0,by go_num,by omega,rfl,by omega,by rw[HW.out];simpa using H6⟩
      case measure=>simp[intOf];omega
    ·rw[List.take_of_length_le (by omega)]at H
     obtain⟨ds,hds⟩:∃ ds,ds=c.map (· == 0):=⟨_,rfl⟩
     have hdl:ds.length=p.store.cells.length:=by rw[hds,List.length_map];omega
     have HZr:Hid (List.replicate p.cols.length (0:Int)=List.replicate ds.length 0):=hid (by rw[hdl,show p.cols.length=p.store.cells.length by omega])
     rw[<-hds]at H HF2
     rw[HZr.out]at HF2
     have HDl:=hid hdl
     have hd40:ds.length<=40:=by omega
     obtain⟨Y,hY⟩:∃ Y,Y=mDrop p.store ds:=⟨_,rfl⟩
     rw[<-hY]at HF2
     have HY:=hid hY
     clear hY hdl hds HZr
     obtain⟨A4,k4,rfl,-⟩:=H.formB 0 rfl
     go_wp2_with fail
     have HX:=H.drew
     clear H x0 x1 x2 x3
     obtain⟨⟨x0,x1⟩,-,-⟩:=box4s HX 1 rfl
     refine wp_region_tree (fun w'=>w'.cell? ⟨gx,0,none⟩=some (.slice C p.store.cells.length kC)/\w'.cell? ⟨gx,1,none⟩=some (.slice R p.store.roots.length kR)) 11 [] (.take 0 (.take 1 (.take 2 (.take 4 (.take 5 (.take 8 (.alt 3 (.alt 6 (.take 7 (.alt 9 (.take 10 (.done)) (.stop))) (.stop)) (.alt 6 (.alt 3 (.take 7 (.alt 9 (.take 10 (.done)) (.stop))) (.stop)) (.stop))))))))) (by kernel_rfl) (by kernel_rfl) (by kernel_rfl) (⟨x0,x1⟩) ?_
     simp only[fillT,lgz,Nat.reduceBEq]
     repeat first|(with_reducible apply po_take;(·(go_simp;done));(·(intro w' hS';(try dsimp only at hS');go_simp;try with_reducible rfl));simp only[lpa])|(with_reducible apply po_skip;(·(go_simp;done));simp only[lpa])
     with_reducible refine po_run ?_ (fun K hK=>?_) ?_
     ·(go_simp;done)
     ·
      revert HX x0 x1;generalize World.drew _=wd;intro HX x0 x1
      go_simp
      have rV:=(HX.owB 0 rfl).rdB
      refine (l11Drop_any _ _ _ _ p.store _ _ _ ds (HX.rdH 2 3 rfl rfl) rV HDl.out (by omega) (by omega) HN3.out).mono ?_
      rintro e w6 ⟨cv,rvs',rv,rfl,K2⟩
      rw[<-HY.out]at K2
      replace HX:=HX.merge K2
      simp only[lca]at HX
      obtain⟨C',kC',rfl,-⟩:=HX.formC 0 rfl
      obtain⟨R',kR',rfl,-⟩:=HX.formI 1 rfl
      clear x0 x1 K2 rV
      obtain⟨⟨x0,x1⟩,-,-⟩:=box4s HX 3 rfl
      refine hK.out _ _ (.inr (⟨x0,x1⟩)) ?_
      clear hK K
      with_reducible refine po_last ?_ (fun K hK=>?_)
      ·(go_simp;done)
      go_simp
      refine upon_makeIs HX _ _ _ _ ds.length rfl rfl (by omega) ?_
      intro gN w7 HY2 hb2
      replace HX:=HY2
      replace x0:=keept x0 hb2
      replace x1:=keept x1 hb2
      clear HY2 hb2
      refine hK.out _ _ (.inr (⟨x0,x1⟩)) ?_
      clear hK K
      repeat first|(with_reducible apply po_take;(·(go_simp;done));(·(intro w' hS';(try dsimp only at hS');go_simp;try with_reducible rfl));simp only[lpa])|(with_reducible apply po_skip;(·(go_simp;done));simp only[lpa])
      with_reducible refine po_last ?_ (fun K hK=>?_)
      ·(go_simp;done)
      have HW:=HX
      obtain⟨y0,y1,y2,y3,y4,y5,y6,y7⟩:=box4 HW 8 rfl
      go_simp
      have HZ:=(((HW.putBox 8 rfl 0 (.slice C' Y.cells.length kC')).putBox 8 rfl 1 (.slice R' Y.roots.length kR')).putBox 8 rfl 2 (.slice (some ⟨gN,0,none⟩) ds.length ds.length)).putBox 8 rfl 3 (.bool false)
      simp only[lsz]at HZ
      clear x0 x1
      obtain⟨⟨x0,x1⟩,-,-⟩:=box4s HZ 4 rfl
      refine hK.out _ _ (.inr (⟨x0,x1⟩)) ?_
      clear hK K
      repeat first|(with_reducible apply po_take;(·(go_simp;done));(·(intro w' hS';(try dsimp only at hS');go_simp;try with_reducible rfl));simp only[lpa])|(with_reducible apply po_skip;(·(go_simp;done));simp only[lpa])
      refine po_done ?_
      obtain⟨⟨z0,z1⟩,z2,z3⟩:=box4s HZ 8 rfl
      have HS:Hid (MadePtN w (ptFinish p) (.returned (.tuple #[.agg #[.slice C' Y.cells.length kC',.slice R' Y.roots.length kR',.slice (some ⟨gN,0,none⟩) ds.length ds.length,.bool false],.int .i64 f0])) _):=hid (by rw[HF2.out];exact⟨_,rvs',_,_,_,rfl,HZ.order [1,2,0] (by decide) rfl⟩)
      clear HZ HW HX x0 x1 y0 y1 y2 y3 y4 y5 y6 y7
      go_wp2
      exact bodyPost_ret (by simp[results,Tryz.results69,go_sem,z0,z1,z2,z3]) rfl HS.out
     with_reducible refine po_last ?_ (fun K hK=>?_)
     ·(go_simp;done)
     revert HX x0 x1;generalize World.drew _=wd;intro HX x0 x1
     go_simp
     refine upon_makeIs HX _ _ _ _ ds.length rfl rfl (by omega) ?_
     intro gN w7 HY2 hb2
     replace HX:=HY2
     replace x0:=keept x0 hb2
     replace x1:=keept x1 hb2
     clear HY2 hb2
     refine hK.out _ _ (.inr (⟨x0,x1⟩)) ?_
     clear hK K
     with_reducible refine po_last ?_ (fun K hK=>?_)
     ·(go_simp;done)
     go_simp
     have rV:=(HX.owB 1 rfl).rdB
     refine (l11Drop_any _ _ _ _ p.store _ _ _ ds (HX.rdH 3 4 rfl rfl) rV HDl.out (by omega) (by omega) HN3.out).mono ?_
     rintro e w6 ⟨cv,rvs',rv,rfl,K2⟩
     rw[<-HY.out]at K2
     replace HX:=HX.merge K2
     simp only[lca]at HX
     obtain⟨C',kC',rfl,-⟩:=HX.formC 0 rfl
     obtain⟨R',kR',rfl,-⟩:=HX.formI 1 rfl
     clear x0 x1 K2 rV
     obtain⟨⟨x0,x1⟩,-,-⟩:=box4s HX 4 rfl
     refine hK.out _ _ (.inr (⟨x0,x1⟩)) ?_
     clear hK K
     repeat first|(with_reducible apply po_take;(·(go_simp;done));(·(intro w' hS';(try dsimp only at hS');go_simp;try with_reducible rfl));simp only[lpa])|(with_reducible apply po_skip;(·(go_simp;done));simp only[lpa])
     with_reducible refine po_last ?_ (fun K hK=>?_)
     ·(go_simp;done)
     have HW:=HX.places [2,0,1,3,4,5,6,7,8,9] (by decide) (by simp);simp only[lfm]at HW
     obtain⟨y0,y1,y2,y3,y4,y5,y6,y7⟩:=box4 HW 8 rfl
     go_simp
     have HZ:=(((HW.putBox 8 rfl 0 (.slice C' Y.cells.length kC')).putBox 8 rfl 1 (.slice R' Y.roots.length kR')).putBox 8 rfl 2 (.slice (some ⟨gN,0,none⟩) ds.length ds.length)).putBox 8 rfl 3 (.bool false)
     simp only[lsz]at HZ
     clear x0 x1
     obtain⟨⟨x0,x1⟩,-,-⟩:=box4s HZ 4 rfl
     refine hK.out _ _ (.inr (⟨x0,x1⟩)) ?_
     clear hK K
     repeat first|(with_reducible apply po_take;(·(go_simp;done));(·(intro w' hS';(try dsimp only at hS');go_simp;try with_reducible rfl));simp only[lpa])|(with_reducible apply po_skip;(·(go_simp;done));simp only[lpa])
     refine po_done ?_
     obtain⟨⟨z0,z1⟩,z2,z3⟩:=box4s HZ 8 rfl
     have HS:Hid (MadePtN w (ptFinish p) (.returned (.tuple #[.agg #[.slice C' Y.cells.length kC',.slice R' Y.roots.length kR',.slice (some ⟨gN,0,none⟩) ds.length ds.length,.bool false],.int .i64 f0])) _):=hid (by rw[HF2.out];exact⟨_,rvs',_,_,_,rfl,HZ.order [1,2,0] (by decide) rfl⟩)
     clear HZ HW HX x0 x1 y0 y1 y2 y3 y4 y5 y6 y7
     go_wp2
     exact bodyPost_ret (by simp[results,Tryz.results69,go_sem,z0,z1,z2,z3]) rfl HS.out
theorem atB_set {kp:List Bool}{n i:Nat}(hn:n<kp.length):atB (kp.set n true) i=(atB kp i || decide (i=n)):=by
 unfold atB
 rw[List.getD_eq_getElem?_getD,List.getD_eq_getElem?_getD,List.getElem?_set]
 by_cases e:n=i
 ·subst e;rw[if_pos rfl,if_pos hn];simp
 ·rw[if_neg e,decide_eq_false (fun k=>e k.symm)];simp
structure YM (a:Ag) (kp:List Bool) (fr:List Int) (k n:Nat) (rs:List Int):Prop where
 len:kp.length=a.store.cells.length
 old:∀ c,atB a.old c=true->atB kp c=true
 mem:∀ x∈fr,0<=x/\x.toNat<a.store.cells.length/\Rch a.store.cells (agYg a) (agFrom a) x.toNat
 base:∀ r∈agFrom a,0<=r->atB a.old r.toNat=false->r∈fr
 done:∀ (i:Nat) (x:Int),i<k->fr[i]?=some x->atB kp x.toNat=true
 rch:∀ c,atB kp c=true->atB a.old c=true\/Rch a.store.cells (agYg a) (agFrom a) c
 clo:∀ (c:Nat) (l:Cel),atB kp c=true->atB a.old c=false->a.store.cells[c]?=some l->∀ r∈l.refs,0<=r->atB kp r.toNat=true\/r∈fr\/(c=n/\r∈rs)
abbrev YI (a:Ag) (kp:List Bool) (fr:List Int) (k:Nat):Prop:=YM a kp fr k 0 []
theorem YI.start {a:Ag}(A:AgOk a) {fr:List Int}(hf:∀ r,r∈fr ↔ r∈agFrom a/\0<=r/\atB a.old r.toNat=false):YI a a.old fr 0:=by
 have hl:=heapOk_leads (good_iff.2 A.good)
 have hlead:∀ r∈agFrom a,leadsB a.store.cells r=true:=fun r hr=>by
  unfold agFrom at hr
  rcases List.mem_append.1 hr with e|e
  ·exact hl.1 r e
  ·obtain⟨c,hc,e⟩:=List.mem_flatMap.1 e
   have hcl:=List.mem_range.1 (List.mem_filter.1 hc).1
   rw[List.getD_eq_getElem?_getD,List.getElem?_eq_getElem hcl]at e
   exact hl.2 c _ (List.getElem?_eq_getElem hcl) r e
 refine⟨A.len1,fun c h=>h,fun x hx=>?_,fun r hr h0 h1=>(hf r).2 ⟨hr,h0,h1⟩,fun i x hi=>by omega,fun c h=>.inl h,fun c l h1 h2=>by rw[h1]at h2;cases h2⟩
 obtain⟨h1,h2,h3⟩:=(hf x).1 hx
 have hu:=leadsB_used (hlead x h1) h2
 refine⟨h2,usedN_lt hu,.base h1 h2 ?_⟩
 unfold agYg
 rw[hu,h3];rfl
theorem YI.skip {a:Ag}{kp:List Bool}{fr:List Int}{k:Nat}{x:Int}(h:YI a kp fr k) (hx:fr[k]?=some x) (hk:atB kp x.toNat=true):YI a kp fr (k+1):=
 ⟨h.len,h.old,h.mem,h.base,fun i y hi hy=>by
  by_cases e:i=k
  ·subst e;rw[hx]at hy;injection hy with hy;rw[<-hy];exact hk
  ·exact h.done i y (by omega) hy,h.rch,h.clo⟩
theorem YI.take {a:Ag}{kp:List Bool}{fr:List Int}{k n:Nat}{l:Cel}(h:YI a kp fr k) (hx:fr[k]?=some (n:Int)) (hl:a.store.cells[n]?=some l):YM a (kp.set n true) fr (k+1) n l.refs:=by
 obtain⟨-,m2,m3⟩:=h.mem _ (List.mem_of_getElem? hx)
 simp only[Int.toNat_natCast]at m2 m3
 have hn:n<kp.length:=by rw[h.len];exact m2
 refine⟨by rw[List.length_set];exact h.len,fun c hc=>by rw[atB_set hn,h.old c hc];rfl,h.mem,h.base,fun i y hi hy=>?_,fun c hc=>?_,fun c l' h1 h2 h3 r hr h0=>?_⟩
 ·rw[atB_set hn]
  by_cases e:i=k
  ·subst e;rw[hx]at hy;injection hy with hy;rw[<-hy];simp
  ·rw[h.done i y (by omega) hy];rfl
 ·rw[atB_set hn]at hc
  by_cases e:c=n
  ·exact .inr (by rw[e];exact m3)
  ·rw[decide_eq_false e,Bool.or_false]at hc;exact h.rch c hc
 ·by_cases e:c=n
  ·subst e
   rw[hl]at h3;injection h3 with h3;subst h3
   exact .inr (.inr ⟨rfl,hr⟩)
  ·rw[atB_set hn,decide_eq_false e,Bool.or_false]at h1
   rcases h.clo c l' h1 h2 h3 r hr h0 with q|q|⟨-,q⟩
   ·exact .inl (by rw[atB_set hn,q];rfl)
   ·exact .inr (.inl q)
   ·simp at q
theorem YM.neg {a:Ag}{kp:List Bool}{fr rs:List Int}{k n:Nat}{r:Int}(h:YM a kp fr k n (r::rs)) (hr:r<0\/atB kp r.toNat=true):YM a kp fr k n rs:=
 ⟨h.len,h.old,h.mem,h.base,h.done,h.rch,fun c l h1 h2 h3 x hx h0=>by
  rcases h.clo c l h1 h2 h3 x hx h0 with q|q|⟨q1,q2⟩
  ·exact .inl q
  ·exact .inr (.inl q)
  ·rcases List.mem_cons.1 q2 with e|e
   ·subst e
    rcases hr with hr|hr
    ·omega
    ·exact .inl hr
   ·exact .inr (.inr ⟨q1,e⟩)⟩
theorem YM.push {a:Ag}{kp:List Bool}{fr rs:List Int}{k n m:Nat}{l:Cel}(A:AgOk a) (h:YM a kp fr k n ((m:Int)::rs)) (hn:atB kp n=true) (hno:atB a.old n=false) (hl:a.store.cells[n]?=some l) (hm:(m:Int)∈l.refs) (hk:atB kp m=false) (hkf:k<=fr.length):YM a kp (fr++[(m:Int)]) k n rs:=by
 have hu:=leadsB_used ((heapOk_leads (good_iff.2 A.good)).2 n l hl _ hm) (by omega)
 simp only[Int.toNat_natCast]at hu
 have ho:atB a.old m=false:=by
  cases e:atB a.old m
  ·rfl
  ·rw[h.old m e]at hk;cases hk
 have hr:Rch a.store.cells (agYg a) (agFrom a) m:=by
  rcases h.rch n hn with e|e
  ·rw[e]at hno;cases hno
  ·refine .step (r:=(m:Int)) e hl hm (by omega) ?_
   simp only[Int.toNat_natCast]
   unfold agYg
   rw[hu,ho];rfl
 refine⟨h.len,h.old,fun x hx=>?_,fun r h1 h2 h3=>List.mem_append_left _ (h.base r h1 h2 h3),fun i x hi hx=>?_,h.rch,fun c l' h1 h2 h3 x hx h0=>?_⟩
 ·rcases List.mem_append.1 hx with e|e
  ·exact h.mem x e
  ·rw[List.mem_singleton]at e
   subst e
   exact⟨by omega,by simpa using usedN_lt hu,by simpa using hr⟩
 ·rw[List.getElem?_append_left (by omega)]at hx
  exact h.done i x hi hx
 ·rcases h.clo c l' h1 h2 h3 x hx h0 with q|q|⟨q1,q2⟩
  ·exact .inl q
  ·exact .inr (.inl (List.mem_append_left _ q))
  ·rcases List.mem_cons.1 q2 with e|e
   ·exact .inr (.inl (by rw[e];simp))
   ·exact .inr (.inr ⟨q1,e⟩)
theorem YM.fin {a:Ag}{kp:List Bool}{fr:List Int}{k n:Nat}(h:YM a kp fr k n []):YI a kp fr k:=
 ⟨h.len,h.old,h.mem,h.base,h.done,h.rch,fun c l h1 h2 h3 x hx h0=>by
  rcases h.clo c l h1 h2 h3 x hx h0 with q|q|⟨-,q⟩
  ·exact .inl q
  ·exact .inr (.inl q)
  ·simp at q⟩
theorem YI.ends {a:Ag}{kp:List Bool}{fr:List Int}{k:Nat}(h:YI a kp fr k) (hk:fr.length<=k):kp=agKeep a:=by
 have all:∀ x∈fr,atB kp x.toNat=true:=fun x hx=>by
  obtain⟨i,hi,rfl⟩:=List.mem_iff_getElem.1 hx
  exact h.done i _ (by omega) (List.getElem?_eq_getElem hi)
 have hr:∀ c,Rch a.store.cells (agYg a) (agFrom a) c->atB kp c=true:=by
  intro c hc
  induction hc with
  | @base r hm h0 hS =>
   refine all r (h.base r hm h0 ?_)
   unfold agYg at hS
   simp only[Bool.and_eq_true,Bool.not_eq_true']at hS
   exact hS.2
  | @step c l r hc hl hm h0 hS ih =>
   have hco:atB a.old c=false:=by
    have:=hc.inS
    unfold agYg at this
    simp only[Bool.and_eq_true,Bool.not_eq_true']at this
    exact this.2
   rcases h.clo c l ih hco hl r hm h0 with q|q|⟨-,q⟩
   ·exact q
   ·exact all r q
   ·simp at q
 apply List.ext_getElem?
 intro i
 by_cases hi:i<a.store.cells.length
 ·have e1:kp[i]?=some (atB kp i):=by
   unfold atB
   rw[List.getD_eq_getElem?_getD,List.getElem?_eq_getElem (by rw[h.len];exact hi)];rfl
  have e2:(agKeep a)[i]?=some (atB (agKeep a) i):=by
   unfold atB
   rw[List.getD_eq_getElem?_getD,List.getElem?_eq_getElem (by rw[agKeep_len];exact hi)];rfl
  rw[e1,e2]
  congr 1
  rw[Bool.eq_iff_iff,agKeep_at hi]
  constructor
  ·exact h.rch i
  ·rintro (e|e)
   ·exact h.old i e
   ·exact hr i e
 ·rw[List.getElem?_eq_none (by rw[h.len];omega),List.getElem?_eq_none (by rw[agKeep_len];omega)]
def Fp (a:Ag) (xs:List Int):List Int:=xs.filter fun r=>decide (0<=r) && !atB a.old r.toNat
theorem Fp_neg {a:Ag}{xs:List Int}{r:Int}(h:r<0):Fp a (xs++[r])=Fp a xs:=by
 unfold Fp
 rw[List.filter_append]
 have:¬ 0<=r:=by omega
 simp[List.filter_cons,this]
theorem Fp_old {a:Ag}{xs:List Int}{q:Nat}(h:atB a.old q=true):Fp a (xs++[(q:Int)])=Fp a xs:=by
 unfold Fp
 rw[List.filter_append]
 simp[List.filter_cons,h]
theorem Fp_new {a:Ag}{xs:List Int}{q:Nat}(h:atB a.old q=false):Fp a (xs++[(q:Int)])=Fp a xs++[(q:Int)]:=by
 unfold Fp
 rw[List.filter_append]
 simp[List.filter_cons,h]
theorem Fp_len (a:Ag) (xs:List Int):(Fp a xs).length<=xs.length:=List.length_filter_le _ _
theorem Fp_mem (a:Ag) (xs:List Int) (r:Int):r∈Fp a xs ↔ r∈xs/\0<=r/\atB a.old r.toNat=false:=by
 unfold Fp
 simp[List.mem_filter]
theorem falses_less {kp:List Bool}{n:Nat}(hn:n<kp.length) (h:atB kp n=false):falses (kp.set n true)+1=falses kp:=by
 refine falses_set kp n ?_
 unfold atB at h
 rw[List.getD_eq_getElem?_getD,List.getElem?_eq_getElem hn]at h
 rw[List.getElem?_eq_getElem hn]
 simpa using h
theorem falses_le:∀ bs:List Bool,falses bs<=bs.length
 | []=>Nat.le_refl _
 | b::bs=>by
  have:=falses_le bs
  cases b <;> simp[falses] <;> omega
end Go.Proofs.YtgppgjgcnpimiaaGreat
