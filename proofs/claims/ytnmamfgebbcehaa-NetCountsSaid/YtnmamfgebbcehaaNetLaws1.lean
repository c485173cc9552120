/- What the law NetCounts answers, and the openers of its arguments. -/
import Derived.Test.YtnmamfgebbcehaaOpenN
