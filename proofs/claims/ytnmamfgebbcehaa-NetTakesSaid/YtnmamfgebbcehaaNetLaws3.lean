/- What the law NetTakes answers, and the opener of its argument. -/
import Derived.Test.YtnmamfgebbcehaaOpenN
import Derived.Test.YtnmamfgebbcehaaNet24
